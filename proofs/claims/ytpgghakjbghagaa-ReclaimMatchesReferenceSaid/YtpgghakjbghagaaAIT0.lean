/- Decision trees of functions: written by a program of mine (aigen.py), proved by the kernel's own computation. -/
import Derived.Test.YtpgghakjbghagaaAITab
set_option maxRecDepth 100000
set_option linter.unusedVariables false
namespace Go.Proofs.Ytpgghakjbghagaa.AI
open Go
noncomputable def pick_0 (a0 : Int) (a1 : Int) : Cfg T := entryC EV 14 [.int .i64 a0, .int .i64 a1] []
theorem pick_0_eq (a0 : Int) (a1 : Int) : tree EV SV 4000 .any (pick_0 a0 a1) =
  (.br (decide (a0 < 0))
    (.need (!a1 == 0) <|
    .ret (.int .i64 ((IntKind.i64.wrap (0 - IntKind.i64.wrap (a0 + 1))).tmod a1)) [])
    (.need (!a1 == 0) <|
    .ret (.int .i64 (a0.tmod a1)) []) : Tr SV) := by kernel_rfl
noncomputable def amounts_0 (a0 : List Int) : Cfg T := entryC EV 9 [.sl .n3 a0 .no] []
noncomputable def amounts_3 (x0 : List Int) (x1 : List Int) (x2 : Int) : Cfg T := atCut EV 9 3 0 [(0, some (.sl .n3 x0 .no)), (3, some (.sl .n3 x1 (.tok 0 0))), (4, some (.int .i64 x2))] [.vec .n3 0]
theorem amounts_0_eq (a0 : List Int) : tree EV SV 4000 .any (amounts_0 a0) =
  (.stop (amounts_3 a0 [] 0) : Tr SV) := by kernel_rfl
theorem amounts_3_eq (x0 : List Int) (x1 : List Int) (x2 : Int) : tree EV SV 4000 (.two (.yes .any) (.no (.no .any))) (amounts_3 x0 x1 x2) =
  (.br (decide (x2 < (↑x0.length : Int)))
    (.need true <|
    .br (decide (x2 < 40))
      (.need (decide (0 ≤ x2) && decide (x2 < (↑x0.length : Int))) <|
      .call 14 [.int .i64 (x0.getD x2.toNat 0), .int .i64 1000000001] [] fun (r0 : Int) =>
      .need (decide ((x1.length + [r0].length) * 8 ≤ 140737488355328)) <|
      .stop (amounts_3 x0 (x1 ++ [r0]) (IntKind.i64.wrap (x2 + 1))))
      (.ret (.sl .n3 x1 .no) []))
    (.need true <|
    .need (true) <|
    .need true <|
    .ret (.sl .n3 x1 .no) []) : Tr SV) := by kernel_rfl
noncomputable def Fold_0 (a0 : List Int) (a1 : List Int) : Cfg T := entryC EV 10 [.sl .n3 a0 .no, .sl .n3 a1 .no] []
noncomputable def Fold_9 (x0 : Int) (x1 : Int) (x2 : Int) (x3 : List Int) (x4 : List Int) (x5 : List Int) : Cfg T := atCut EV 10 9 0 [(6, some (.ptr 0 0)), (7, some (.fn 19 [] [.ptr 1 0, .ptr 0 0, .ptr 2 0])), (8, some (.asl 3)), (25, some (.int .i64 x0)), (26, some (.int .i64 x1))] [.box 3 [.int .i64 x2], .box 22 [.sl .n3 x3 .no], .box 22 [.sl .n3 x4 .no], .arr .n3 x5]
theorem Fold_0_eq (a0 : List Int) (a1 : List Int) : tree EV SV 4000 .any (Fold_0 a0 a1) =
  (.need (true) <|
  .need (true) <|
  .need (true) <|
  .need (true) <|
  .br (!(↑a0.length : Int) == (↑a1.length : Int))
    (.ret (.tup [.sl .n3 [] .no, .int .i64 1]) [])
    (.need (true) <|
    .br (decide (600 < (↑a0.length : Int)))
      (.ret (.tup [.sl .n3 [] .no, .int .i64 2]) [])
      (.need (true) <|
      .need (true) <|
      .need (true) <|
      .need (decide ((↑a0.length : Int) = (↑a0.length : Int)) && (decide (0 ≤ (↑a0.length : Int)) && decide ((↑a0.length : Int) * (↑8 : Int) ≤ 140737488355328) && decide ((↑a0.length : Int) ≤ 9223372036854775807))) <|
      .need (true) <|
      .stop (Fold_9 ((↑a0.length : Int)) 0 0 a0 a1 (List.replicate (↑a0.length : Int).toNat 0)))) : Tr SV) := by kernel_rfl
theorem Fold_9_eq (x0 : Int) (x1 : Int) (x2 : Int) (x3 : List Int) (x4 : List Int) (x5 : List Int) : tree EV SV 4000 .any (Fold_9 x0 x1 x2 x3 x4 x5) =
  (.br (decide (x1 < x0))
    (.call 19 [.int .i64 x1, .ptr 0 0, .ptr 1 0, .ptr 2 0] [.box 22 [.sl .n3 x3 .no], .box 3 [.int .i64 x2], .box 22 [.sl .n3 x4 .no]] fun (r0 : Bool × List Int × Int × List Int) =>
    .br (!r0.fst)
      (.ret (.tup [.sl .n3 [] .no, .int .i64 3]) [])
      (.need (true) <|
      .need (decide (0 ≤ x1) && decide (x1 < (↑x5.length : Int))) <|
      .need (true) <|
      .stop (Fold_9 x0 (IntKind.i64.wrap (x1 + 1)) r0.snd.snd.fst r0.snd.fst r0.snd.snd.snd (x5.set x1.toNat r0.snd.snd.fst))))
    (.ret (.tup [.sl .n3 x5 .no, .int .i64 0]) []) : Tr SV) := by kernel_rfl
noncomputable def RFold_0 (a0 : List Int) (a1 : List Int) : Cfg T := entryC EV 11 [.sl .n3 a0 .no, .sl .n3 a1 .no] []
noncomputable def RFold_8 (x0 : List Int) (x1 : List Int) (x2 : List Int) (x3 : Int) (x4 : Int) : Cfg T := atCut EV 11 8 0 [(0, some (.sl .n3 x0 .no)), (1, some (.sl .n3 x1 .no)), (6, some (.sl .n3 x2 (.tok 0 0))), (7, some (.int .i64 x3)), (8, some (.int .i64 x4))] [.vec .n3 0]
theorem RFold_0_eq (a0 : List Int) (a1 : List Int) : tree EV SV 4000 .any (RFold_0 a0 a1) =
  (.br (!(↑a0.length : Int) == (↑a1.length : Int))
    (.ret (.tup [.sl .n3 [] .no, .int .i64 1]) [])
    (.br (decide (600 < (↑a0.length : Int)))
      (.ret (.tup [.sl .n3 [] .no, .int .i64 2]) [])
      (.stop (RFold_8 a0 a1 [] 0 0))) : Tr SV) := by kernel_rfl
theorem RFold_8_eq (x0 : List Int) (x1 : List Int) (x2 : List Int) (x3 : Int) (x4 : Int) : tree EV SV 4000 (.two (.two .any (.yes .any)) .any) (RFold_8 x0 x1 x2 x3 x4) =
  (.br (decide (x4 < (↑x0.length : Int)))
    (.need (decide (0 ≤ x4) && decide (x4 < (↑x0.length : Int))) <|
    .need (decide (0 ≤ x4) && decide (x4 < (↑x1.length : Int))) <|
    .call 18 [.int .i64 (x0.getD x4.toNat 0), .int .i64 x3, .int .i64 (x1.getD x4.toNat 0)] [] fun (r0 : Int × Int) =>
    .call 21 [.int .i64 (IntKind.i64.wrap (x3 + r0.fst))] [] fun (r1 : Bool) =>
    .br (!!r0.snd == 0)
      (.br (r1)
        (.ret (.tup [.sl .n3 [] .no, .int .i64 3]) [])
        (.need (decide ((x2.length + [IntKind.i64.wrap (x3 + r0.fst)].length) * 8 ≤ 140737488355328)) <|
        .stop (RFold_8 x0 x1 (x2 ++ [IntKind.i64.wrap (x3 + r0.fst)]) (IntKind.i64.wrap (x3 + r0.fst)) (IntKind.i64.wrap (x4 + 1)))))
      (.need (true) <|
      .need true <|
      .ret (.tup [.sl .n3 [] .no, .int .i64 3]) []))
    (.ret (.tup [.sl .n3 x2 .no, .int .i64 0]) []) : Tr SV) := by kernel_rfl
noncomputable def Schedule_0 (a0 : Int) (a1 : Int) (a2 : List Int) : Cfg T := entryC EV 12 [.int .i64 a0, .int .i64 a1, .sl .n3 a2 .no] []
noncomputable def Schedule_9 (x0 : Int) (x1 : Int) (x2 : List S41) (x3 : List Int) (x4 : Int) (x5 : Int) : Cfg T := atCut EV 12 9 0 [(0, some (.int .i64 x0)), (1, some (.int .i64 x1)), (9, some (.sl .n41 x2 (.tok 0 0))), (46, some (.sl .n3 x3 .no)), (47, some (.int .i64 x4)), (48, some (.int .i64 x5))] [.vec .n41 0]
theorem Schedule_0_eq (a0 : Int) (a1 : Int) (a2 : List Int) : tree EV SV 4000 (.two (.yes (.two (.yes (.two .any (.two (.yes (.yes (.yes (.yes (.yes (.two .any (.two (.yes (.yes .any)) (.no (.no (.yes .any)))))))))) (.no (.no (.no (.no (.no (.yes .any))))))))) (.no (.yes .any)))) (.no (.no (.no (.yes .any))))) (Schedule_0 a0 a1 a2) =
  (.br (!decide (a0 < 0))
    (.need true <|
    .br (!decide (a1 < 0))
      (.need true <|
      .br (decide (1199 < a1))
        (.ret (.tup [.sl .n41 [] .no, .int .i64 0, .int .i64 1]) [])
        (.br (!decide (600 < (↑a2.length : Int)))
          (.need true <|
          .need true <|
          .need true <|
          .need true <|
          .need true <|
          .br (decide (1199 < IntKind.i64.wrap (IntKind.i64.wrap (a1 + (↑a2.length : Int)) - 1)))
            (.ret (.tup [.sl .n41 [] .no, .int .i64 0, .int .i64 2]) [])
            (.call 20 [.sl .n3 [a0] .no] [] fun (r0 : Bool) =>
            .br (!!r0)
              (.need true <|
              .call 20 [.sl .n3 a2 .no] [] fun (r1 : Bool) =>
              .need true <|
              .br (!r1)
                (.ret (.tup [.sl .n41 [] .no, .int .i64 0, .int .i64 3]) [])
                (.stop (Schedule_9 a0 a1 [] a2 ((↑a2.length : Int)) 0)))
              (.need true <|
              .need true <|
              .need (true) <|
              .need true <|
              .ret (.tup [.sl .n41 [] .no, .int .i64 0, .int .i64 3]) [])))
          (.need true <|
          .need true <|
          .need true <|
          .need true <|
          .need true <|
          .need (true) <|
          .need true <|
          .ret (.tup [.sl .n41 [] .no, .int .i64 0, .int .i64 2]) [])))
      (.need true <|
      .need (true) <|
      .need true <|
      .ret (.tup [.sl .n41 [] .no, .int .i64 0, .int .i64 1]) []))
    (.need true <|
    .need (true) <|
    .need true <|
    .need true <|
    .need (true) <|
    .need true <|
    .ret (.tup [.sl .n41 [] .no, .int .i64 0, .int .i64 1]) []) : Tr SV) := by kernel_rfl
theorem Schedule_9_eq (x0 : Int) (x1 : Int) (x2 : List S41) (x3 : List Int) (x4 : Int) (x5 : Int) : tree EV SV 4000 .any (Schedule_9 x0 x1 x2 x3 x4 x5) =
  (.br (decide (x5 < x4))
    (.need (decide (0 ≤ x5) && decide (x5 < (↑x3.length : Int))) <|
    .call 22 [.int .i64 (if 0 > x3.getD x5.toNat 0 then 0 else x3.getD x5.toNat 0)] [] fun (r0 : Int) =>
    .br (decide (0 < if r0 < x0 then r0 else x0))
      (.need (decide ((x2.length + [{ f0 := IntKind.i64.wrap (x1 + x5), f1 := if r0 < x0 then r0 else x0 : S41 }].length) * 16 ≤ 140737488355328)) <|
      .stop (Schedule_9 (IntKind.i64.wrap (x0 - if r0 < x0 then r0 else x0)) x1 (x2 ++ [{ f0 := IntKind.i64.wrap (x1 + x5), f1 := if r0 < x0 then r0 else x0 : S41 }]) x3 x4 (IntKind.i64.wrap (x5 + 1))))
      (.stop (Schedule_9 x0 x1 x2 x3 x4 (IntKind.i64.wrap (x5 + 1)))))
    (.ret (.tup [.sl .n41 x2 .no, .int .i64 x0, .int .i64 0]) []) : Tr SV) := by kernel_rfl
noncomputable def RSchedule_0 (a0 : Int) (a1 : Int) (a2 : List Int) : Cfg T := entryC EV 13 [.int .i64 a0, .int .i64 a1, .sl .n3 a2 .no] []
noncomputable def RSchedule_7 (x0 : Int) (x1 : Int) (x2 : List Int) (x3 : Bool) (x4 : Int) : Cfg T := atCut EV 13 7 0 [(0, some (.int .i64 x0)), (1, some (.int .i64 x1)), (2, some (.sl .n3 x2 .no)), (9, some (.bool x3)), (10, some (.int .i64 x4))] []
theorem RSchedule_0_eq (a0 : Int) (a1 : Int) (a2 : List Int) : tree EV SV 4000 (.two (.yes (.two (.yes (.two .any (.two (.yes (.yes (.yes (.yes .any)))) (.no (.no (.no (.no (.yes .any)))))))) (.no (.yes .any)))) (.no (.no (.no (.yes .any))))) (RSchedule_0 a0 a1 a2) =
  (.br (!decide (a0 < 0))
    (.need true <|
    .br (!decide (a1 < 0))
      (.need true <|
      .br (decide (1199 < a1))
        (.ret (.tup [.sl .n41 [] .no, .int .i64 0, .int .i64 1]) [])
        (.br (!decide (600 < (↑a2.length : Int)))
          (.need true <|
          .need true <|
          .need true <|
          .need true <|
          .br (decide (IntKind.i64.wrap (1200 - a1) < (↑a2.length : Int)))
            (.ret (.tup [.sl .n41 [] .no, .int .i64 0, .int .i64 2]) [])
            (.call 21 [.int .i64 a0] [] fun (r0 : Bool) =>
            .stop (RSchedule_7 a0 a1 a2 r0 0)))
          (.need true <|
          .need true <|
          .need true <|
          .need true <|
          .need (true) <|
          .need true <|
          .ret (.tup [.sl .n41 [] .no, .int .i64 0, .int .i64 2]) [])))
      (.need true <|
      .need (true) <|
      .need true <|
      .ret (.tup [.sl .n41 [] .no, .int .i64 0, .int .i64 1]) []))
    (.need true <|
    .need (true) <|
    .need true <|
    .need true <|
    .need (true) <|
    .need true <|
    .ret (.tup [.sl .n41 [] .no, .int .i64 0, .int .i64 1]) []) : Tr SV) := by kernel_rfl
noncomputable def RSchedule_14 (x0 : Int) (x1 : Int) (x2 : List Int) (x3 : List S41) (x4 : Int) : Cfg T := atCut EV 13 14 0 [(0, some (.int .i64 x0)), (1, some (.int .i64 x1)), (2, some (.sl .n3 x2 .no)), (11, some (.sl .n41 x3 (.tok 0 0))), (12, some (.int .i64 x4))] [.vec .n41 0]
theorem RSchedule_7_eq (x0 : Int) (x1 : Int) (x2 : List Int) (x3 : Bool) (x4 : Int) : tree EV SV 4000 (.two (.two (.yes (.yes (.yes (.yes .any)))) (.no (.no (.no (.no .any))))) .any) (RSchedule_7 x0 x1 x2 x3 x4) =
  (.br (decide (x4 < (↑x2.length : Int)))
    (.br (!x3)
      (.need true <|
      .need true <|
      .need (decide (0 ≤ x4) && decide (x4 < (↑x2.length : Int))) <|
      .need true <|
      .need true <|
      .call 21 [.int .i64 (x2.getD x4.toNat 0)] [] fun (r0 : Bool) =>
      .stop (RSchedule_7 x0 x1 x2 r0 (IntKind.i64.wrap (x4 + 1))))
      (.need true <|
      .need true <|
      .need true <|
      .need true <|
      .need (true) <|
      .stop (RSchedule_7 x0 x1 x2 true (IntKind.i64.wrap (x4 + 1)))))
    (.br (x3)
      (.ret (.tup [.sl .n41 [] .no, .int .i64 0, .int .i64 3]) [])
      (.stop (RSchedule_14 x0 x1 x2 [] 0))) : Tr SV) := by kernel_rfl
theorem RSchedule_14_eq (x0 : Int) (x1 : Int) (x2 : List Int) (x3 : List S41) (x4 : Int) : tree EV SV 4000 (.two (.two .any (.no .any)) .any) (RSchedule_14 x0 x1 x2 x3 x4) =
  (.br (decide (x4 < (↑x2.length : Int)))
    (.need (decide (0 ≤ x4) && decide (x4 < (↑x2.length : Int))) <|
    .br (decide (0 < x2.getD x4.toNat 0))
      (.need (decide (0 ≤ x4) && decide (x4 < (↑x2.length : Int))) <|
      .need (true) <|
      .br (decide (0 < if IntKind.i64.wrap (Int.tdiv (x2.getD x4.toNat 0) 4) < x0 then IntKind.i64.wrap (Int.tdiv (x2.getD x4.toNat 0) 4) else x0))
        (.need (decide ((x3.length + [{ f0 := IntKind.i64.wrap (x1 + x4), f1 := if IntKind.i64.wrap (Int.tdiv (x2.getD x4.toNat 0) 4) < x0 then IntKind.i64.wrap (Int.tdiv (x2.getD x4.toNat 0) 4) else x0 : S41 }].length) * 16 ≤ 140737488355328)) <|
        .stop (RSchedule_14 (IntKind.i64.wrap (x0 - if IntKind.i64.wrap (Int.tdiv (x2.getD x4.toNat 0) 4) < x0 then IntKind.i64.wrap (Int.tdiv (x2.getD x4.toNat 0) 4) else x0)) x1 x2 (x3 ++ [{ f0 := IntKind.i64.wrap (x1 + x4), f1 := if IntKind.i64.wrap (Int.tdiv (x2.getD x4.toNat 0) 4) < x0 then IntKind.i64.wrap (Int.tdiv (x2.getD x4.toNat 0) 4) else x0 : S41 }]) (IntKind.i64.wrap (x4 + 1))))
        (.stop (RSchedule_14 x0 x1 x2 x3 (IntKind.i64.wrap (x4 + 1)))))
      (.need true <|
      .stop (RSchedule_14 x0 x1 x2 x3 (IntKind.i64.wrap (x4 + 1)))))
    (.ret (.tup [.sl .n41 x3 .no, .int .i64 x0, .int .i64 0]) []) : Tr SV) := by kernel_rfl
noncomputable def Same_0 (a0 : List Int) (a1 : List Int) : Cfg T := entryC EV 15 [.sl .n3 a0 .no, .sl .n3 a1 .no] []
noncomputable def Same_4 (x0 : List Int) (x1 : List Int) (x2 : Int) : Cfg T := atCut EV 15 4 0 [(0, some (.sl .n3 x0 .no)), (1, some (.sl .n3 x1 .no)), (5, some (.int .i64 x2))] []
theorem Same_0_eq (a0 : List Int) (a1 : List Int) : tree EV SV 4000 .any (Same_0 a0 a1) =
  (.br (!(↑a0.length : Int) == (↑a1.length : Int))
    (.ret (.bool false) [])
    (.stop (Same_4 a0 a1 0)) : Tr SV) := by kernel_rfl
theorem Same_4_eq (x0 : List Int) (x1 : List Int) (x2 : Int) : tree EV SV 4000 .any (Same_4 x0 x1 x2) =
  (.br (decide (x2 < (↑x0.length : Int)))
    (.need (decide (0 ≤ x2) && decide (x2 < (↑x0.length : Int))) <|
    .need (decide (0 ≤ x2) && decide (x2 < (↑x1.length : Int))) <|
    .br (!x0.getD x2.toNat 0 == x1.getD x2.toNat 0)
      (.ret (.bool false) [])
      (.stop (Same_4 x0 x1 (IntKind.i64.wrap (x2 + 1)))))
    (.ret (.bool true) []) : Tr SV) := by kernel_rfl
noncomputable def SamePlan_0 (a0 : List S41) (a1 : List S41) : Cfg T := entryC EV 16 [.sl .n41 a0 .no, .sl .n41 a1 .no] []
noncomputable def SamePlan_4 (x0 : List S41) (x1 : List S41) (x2 : Int) : Cfg T := atCut EV 16 4 0 [(0, some (.sl .n41 x0 .no)), (1, some (.sl .n41 x1 .no)), (5, some (.int .i64 x2))] []
theorem SamePlan_0_eq (a0 : List S41) (a1 : List S41) : tree EV SV 4000 .any (SamePlan_0 a0 a1) =
  (.br (!(↑a0.length : Int) == (↑a1.length : Int))
    (.ret (.bool false) [])
    (.stop (SamePlan_4 a0 a1 0)) : Tr SV) := by kernel_rfl
theorem SamePlan_4_eq (x0 : List S41) (x1 : List S41) (x2 : Int) : tree EV SV 4000 .any (SamePlan_4 x0 x1 x2) =
  (.br (decide (x2 < (↑x0.length : Int)))
    (.need (decide (0 ≤ x2) && decide (x2 < (↑x0.length : Int))) <|
    .need (decide (0 ≤ x2) && decide (x2 < (↑x1.length : Int))) <|
    .br (!((x0.getD x2.toNat { f0 := 0, f1 := 0 : S41 }).f0 == (x1.getD x2.toNat { f0 := 0, f1 := 0 : S41 }).f0 && ((x0.getD x2.toNat { f0 := 0, f1 := 0 : S41 }).f1 == (x1.getD x2.toNat { f0 := 0, f1 := 0 : S41 }).f1 && true)))
      (.ret (.bool false) [])
      (.stop (SamePlan_4 x0 x1 (IntKind.i64.wrap (x2 + 1)))))
    (.ret (.bool true) []) : Tr SV) := by kernel_rfl
noncomputable def Next_0 (a0 : Int) (a1 : Int) (a2 : Int) : Cfg T := entryC EV 17 [.int .i64 a0, .int .i64 a1, .int .i64 a2] []
theorem Next_0_eq (a0 : Int) (a1 : Int) (a2 : Int) : tree EV SV 4000 .any (Next_0 a0 a1 a2) =
  (.call 20 [.sl .n3 ([a0, a1, a2]) .no] [] fun (r0 : Bool) =>
  .br (!r0)
    (.ret (.tup [.int .i64 0, .int .i64 3]) [])
    (.call 22 [.int .i64 a2] [] fun (r1 : Int) =>
    .call 23 [.int .i64 0, .sl .n3 ([IntKind.i64.wrap (a0 - a1), IntKind.i64.wrap (a2 - r1)]) .no] [] fun (r2 : Int) =>
    .call 20 [.sl .n3 [r2] .no] [] fun (r3 : Bool) =>
    .br (!r3)
      (.ret (.tup [.int .i64 0, .int .i64 3]) [])
      (.ret (.tup [.int .i64 r2, .int .i64 0]) [])) : Tr SV) := by kernel_rfl
noncomputable def RNext_0 (a0 : Int) (a1 : Int) (a2 : Int) : Cfg T := entryC EV 18 [.int .i64 a0, .int .i64 a1, .int .i64 a2] []
theorem RNext_0_eq (a0 : Int) (a1 : Int) (a2 : Int) : tree EV SV 4000 (.two (.two .any (.yes .any)) (.no (.yes .any))) (RNext_0 a0 a1 a2) =
  (.call 21 [.int .i64 a0] [] fun (r0 : Bool) =>
  .call 21 [.int .i64 a1] [] fun (r1 : Bool) =>
  .call 21 [.int .i64 a2] [] fun (r2 : Bool) =>
  .br (!r0)
    (.br (!r1)
      (.br (r2)
        (.ret (.tup [.int .i64 0, .int .i64 3]) [])
        (.call 24 [.int .i64 a2] [] fun (r3 : Int) =>
        .br (decide (IntKind.i64.wrap (a2 - r3) < IntKind.i64.wrap (a0 - a1)))
          (.br (decide (IntKind.i64.wrap (a0 - a1) < 0))
            (.call 21 [.int .i64 0] [] fun (r4 : Bool) =>
            .br (r4)
              (.ret (.tup [.int .i64 0, .int .i64 3]) [])
              (.ret (.tup [.int .i64 0, .int .i64 0]) []))
            (.call 21 [.int .i64 (IntKind.i64.wrap (a0 - a1))] [] fun (r4 : Bool) =>
            .br (r4)
              (.ret (.tup [.int .i64 0, .int .i64 3]) [])
              (.ret (.tup [.int .i64 (IntKind.i64.wrap (a0 - a1)), .int .i64 0]) [])))
          (.br (decide (IntKind.i64.wrap (a2 - r3) < 0))
            (.call 21 [.int .i64 0] [] fun (r4 : Bool) =>
            .br (r4)
              (.ret (.tup [.int .i64 0, .int .i64 3]) [])
              (.ret (.tup [.int .i64 0, .int .i64 0]) []))
            (.call 21 [.int .i64 (IntKind.i64.wrap (a2 - r3))] [] fun (r4 : Bool) =>
            .br (r4)
              (.ret (.tup [.int .i64 0, .int .i64 3]) [])
              (.ret (.tup [.int .i64 (IntKind.i64.wrap (a2 - r3)), .int .i64 0]) [])))))
      (.need (true) <|
      .need true <|
      .ret (.tup [.int .i64 0, .int .i64 3]) []))
    (.need (true) <|
    .need true <|
    .need (true) <|
    .need true <|
    .ret (.tup [.int .i64 0, .int .i64 3]) []) : Tr SV) := by kernel_rfl
noncomputable def Step_0 (i : Int) (due : List Int) (nets : List Int) (paid : Int) : Cfg T := entryC EV 19 [.int .i64 i, .ptr 0 0, .ptr 1 0, .ptr 2 0] [.box 22 [.sl .n3 due .no], .box 3 [.int .i64 paid], .box 22 [.sl .n3 nets .no]]
theorem Step_0_eq (i : Int) (due : List Int) (nets : List Int) (paid : Int) : tree EV SV 4000 (.two (.yes (.yes .any)) (.no (.no .any))) (Step_0 i due nets paid) =
  (.need (true) <|
  .need (decide (0 ≤ i) && decide (i < (↑due.length : Int))) <|
  .need (true) <|
  .need (true) <|
  .need (decide (0 ≤ i) && decide (i < (↑nets.length : Int))) <|
  .call 17 [.int .i64 (due.getD i.toNat 0), .int .i64 paid, .int .i64 (nets.getD i.toNat 0)] [] fun (r0 : Int × Int) =>
  .need (true) <|
  .need (true) <|
  .br (r0.snd == 0)
    (.need (true) <|
    .need true <|
    .need true <|
    .call 20 [.sl .n3 ([IntKind.i64.wrap (paid + r0.fst)]) .no] [] fun (r1 : Bool) =>
    .ret (.bool r1) [.box 22 [.sl .n3 due .no], .box 3 [.int .i64 (IntKind.i64.wrap (paid + r0.fst))], .box 22 [.sl .n3 nets .no]])
    (.need true <|
    .need true <|
    .need (true) <|
    .ret (.bool false) [.box 22 [.sl .n3 due .no], .box 3 [.int .i64 (IntKind.i64.wrap (paid + r0.fst))], .box 22 [.sl .n3 nets .no]]) : Tr SV) := by kernel_rfl
noncomputable def inRange_0 (a0 : List Int) : Cfg T := entryC EV 20 [.sl .n3 a0 .no] []
noncomputable def inRange_2 (x0 : List Int) (x1 : Int) (x2 : Int) : Cfg T := atCut EV 20 2 0 [(5, some (.sl .n3 x0 .no)), (6, some (.int .i64 x1)), (7, some (.int .i64 x2))] []
theorem inRange_0_eq (a0 : List Int) : tree EV SV 4000 .any (inRange_0 a0) =
  (.stop (inRange_2 a0 ((↑a0.length : Int)) 0) : Tr SV) := by kernel_rfl
theorem inRange_2_eq (x0 : List Int) (x1 : Int) (x2 : Int) : tree EV SV 4000 (.two (.two (.yes .any) (.no (.yes .any))) .any) (inRange_2 x0 x1 x2) =
  (.br (decide (x2 < x1))
    (.need (decide (0 ≤ x2) && decide (x2 < (↑x0.length : Int))) <|
    .br (!decide (x0.getD x2.toNat 0 < -1000000000000))
      (.need true <|
      .br (decide (1000000000000 < x0.getD x2.toNat 0))
        (.ret (.bool false) [])
        (.stop (inRange_2 x0 x1 (IntKind.i64.wrap (x2 + 1)))))
      (.need true <|
      .need (true) <|
      .need true <|
      .ret (.bool false) []))
    (.ret (.bool true) []) : Tr SV) := by kernel_rfl
noncomputable def Big_0 (a0 : Int) : Cfg T := entryC EV 21 [.int .i64 a0] []
theorem Big_0_eq (a0 : Int) : tree EV SV 4000 (.two (.yes .any) (.no .any)) (Big_0 a0) =
  (.br (!decide (1000000000000 < a0))
    (.need true <|
    .ret (.bool (decide (a0 < -1000000000000))) [])
    (.need true <|
    .need (true) <|
    .ret (.bool true) []) : Tr SV) := by kernel_rfl
noncomputable def part_0 (a0 : Int) : Cfg T := entryC EV 22 [.int .i64 a0] []
theorem part_0_eq (a0 : Int) : tree EV SV 4000 .any (part_0 a0) =
  (.call 25 [.int .i64 a0, .int .i64 1, .int .i64 4, .int .i64 0] [] fun (r0 : Int × Int) =>
  .ret (.int .i64 r0.fst) [] : Tr SV) := by kernel_rfl
noncomputable def greatest_0 (a0 : Int) (a1 : List Int) : Cfg T := entryC EV 23 [.int .i64 a0, .sl .n3 a1 .no] []
noncomputable def greatest_2 (x0 : Int) (x1 : List Int) (x2 : Int) (x3 : Int) : Cfg T := atCut EV 23 2 0 [(0, some (.int .i64 x0)), (7, some (.sl .n3 x1 .no)), (8, some (.int .i64 x2)), (9, some (.int .i64 x3))] []
theorem greatest_0_eq (a0 : Int) (a1 : List Int) : tree EV SV 4000 .any (greatest_0 a0 a1) =
  (.stop (greatest_2 a0 a1 ((↑a1.length : Int)) 0) : Tr SV) := by kernel_rfl
theorem greatest_2_eq (x0 : Int) (x1 : List Int) (x2 : Int) (x3 : Int) : tree EV SV 4000 .any (greatest_2 x0 x1 x2 x3) =
  (.br (decide (x3 < x2))
    (.need (decide (0 ≤ x3) && decide (x3 < (↑x1.length : Int))) <|
    .stop (greatest_2 (if x1.getD x3.toNat 0 > x0 then x1.getD x3.toNat 0 else x0) x1 x2 (IntKind.i64.wrap (x3 + 1))))
    (.ret (.int .i64 x0) []) : Tr SV) := by kernel_rfl
noncomputable def Quarter_0 (a0 : Int) : Cfg T := entryC EV 24 [.int .i64 a0] []
theorem Quarter_0_eq (a0 : Int) : tree EV SV 4000 .any (Quarter_0 a0) =
  (.need (true) <|
  .br (decide (a0 < IntKind.i64.wrap (IntKind.i64.wrap (a0.tdiv 4) * 4)))
    (.ret (.int .i64 (IntKind.i64.wrap (IntKind.i64.wrap (a0.tdiv 4) - 1))) [])
    (.ret (.int .i64 (IntKind.i64.wrap (a0.tdiv 4))) []) : Tr SV) := by kernel_rfl
noncomputable def Scale_0 (a0 : Int) : Cfg T := entryC EV 25 [.int .i64 a0, .int .i64 1, .int .i64 4, .int .i64 0] []
theorem Scale_0_eq (a0 : Int) : tree EV SV 4000 (.two (.yes (.yes (.yes (.yes (.yes (.yes (.yes (.no (.no (.no (.yes .any))))))))))) (.no (.no (.no (.no (.no (.no (.no (.yes .any))))))))) (Scale_0 a0) =
  (.call 26 [.int .i64 a0] [] fun (r0 : Bool) =>
  .br (!!r0)
    (.need true <|
    .need true <|
    .need true <|
    .need true <|
    .need true <|
    .need true <|
    .need true <|
    .need true <|
    .call 27 [.int .i64 (IntKind.i64.wrap (a0 * 1)), .int .i64 4] [] fun (r1 : Int × Int) =>
    .need true <|
    .need true <|
    .need true <|
    .call 26 [.int .i64 r1.fst] [] fun (r2 : Bool) =>
    .br (!r2)
      (.ret (.tup [.int .i64 0, .int .i64 3]) [])
      (.ret (.tup [.int .i64 r1.fst, .int .i64 0]) []))
    (.need true <|
    .need (true) <|
    .need true <|
    .need true <|
    .need (true) <|
    .need true <|
    .need true <|
    .need (true) <|
    .need true <|
    .need true <|
    .need (true) <|
    .need true <|
    .ret (.tup [.int .i64 0, .int .i64 1]) []) : Tr SV) := by kernel_rfl
noncomputable def fits_0 (a0 : Int) : Cfg T := entryC EV 26 [.int .i64 a0] []
theorem fits_0_eq (a0 : Int) : tree EV SV 4000 (.two (.yes .any) (.no .any)) (fits_0 a0) =
  (.br (decide (-1000000000000 ≤ a0))
    (.need true <|
    .ret (.bool (decide (a0 ≤ 1000000000000))) [])
    (.need true <|
    .need (true) <|
    .ret (.bool false) []) : Tr SV) := by kernel_rfl
noncomputable def divide_0 (a0 : Int) : Cfg T := entryC EV 27 [.int .i64 a0, .int .i64 4] []
theorem divide_0_eq (a0 : Int) : tree EV SV 4000 .any (divide_0 a0) =
  (.need (true) <|
  .need (true) <|
  .br (decide (a0.tmod 4 < 0))
    (.ret (.tup [.int .i64 (IntKind.i64.wrap (IntKind.i64.wrap (a0.tdiv 4) - 1)), .int .i64 (IntKind.i64.wrap (a0.tmod 4 + 4))]) [])
    (.ret (.tup [.int .i64 (IntKind.i64.wrap (a0.tdiv 4)), .int .i64 (a0.tmod 4)]) []) : Tr SV) := by kernel_rfl
noncomputable def Law_0 (a0 : List Int) (a1 : List Int) (a2 : Int) (a3 : Int) (a4 : Int) : Cfg T := entryC EV 3 [.sl .n3 a0 .no, .sl .n3 a1 .no, .int .i64 a2, .int .i64 a3, .int .i64 a4] []
noncomputable def Law_3 (x0 : List Int) (x1 : List Int) (x2 : Int) (x3 : Int) (x4 : Int) (x5 : Bool) : Cfg T := atCut EV 3 3 0 [(0, some (.sl .n3 x0 .no)), (1, some (.sl .n3 x1 .no)), (2, some (.int .i64 x2)), (3, some (.int .i64 x3)), (4, some (.int .i64 x4)), (11, some (.bool x5))] []
theorem Law_0_eq (a0 : List Int) (a1 : List Int) (a2 : Int) (a3 : Int) (a4 : Int) : tree EV SV 4000 .any (Law_0 a0 a1 a2 a3 a4) =
  (.call 8 [] [] fun (r0 : Bool) =>
  .need (decide (0 ≤ 0) && decide (0 ≤ if 620 < (↑a0.length : Int) then 620 else (↑a0.length : Int)) && decide ((if 620 < (↑a0.length : Int) then 620 else (↑a0.length : Int)) ≤ (↑a0.length : Int))) <|
  .stop (Law_3 (List.drop (Int.toNat 0) (List.take (if 620 < (↑a0.length : Int) then 620 else (↑a0.length : Int)).toNat a0)) a1 a2 a3 a4 r0) : Tr SV) := by kernel_rfl
noncomputable def Law_4 (x0 : List Int) (x1 : List Int) (x2 : Int) (x3 : Int) (x4 : Int) (x5 : Bool) : Cfg T := atCut EV 3 4 0 [(0, some (.sl .n3 x0 .no)), (1, some (.sl .n3 x1 .no)), (2, some (.int .i64 x2)), (3, some (.int .i64 x3)), (4, some (.int .i64 x4)), (11, some (.bool x5))] []
theorem Law_3_eq (x0 : List Int) (x1 : List Int) (x2 : Int) (x3 : Int) (x4 : Int) (x5 : Bool) : tree EV SV 4000 .any (Law_3 x0 x1 x2 x3 x4 x5) =
  (.need (decide (0 ≤ 0) && decide (0 ≤ if 620 < (↑x1.length : Int) then 620 else (↑x1.length : Int)) && decide ((if 620 < (↑x1.length : Int) then 620 else (↑x1.length : Int)) ≤ (↑x1.length : Int))) <|
  .stop (Law_4 x0 (List.drop (Int.toNat 0) (List.take (if 620 < (↑x1.length : Int) then 620 else (↑x1.length : Int)).toNat x1)) x2 x3 x4 x5) : Tr SV) := by kernel_rfl
noncomputable def Law_5 (x0 : List Int) (x1 : List Int) (x2 : Int) (x3 : Int) (x4 : Int) (x5 : Bool) (x6 : Int) : Cfg T := atCut EV 3 5 0 [(0, some (.sl .n3 x0 .no)), (1, some (.sl .n3 x1 .no)), (2, some (.int .i64 x2)), (3, some (.int .i64 x3)), (4, some (.int .i64 x4)), (11, some (.bool x5)), (12, some (.int .i64 x6))] []
theorem Law_4_eq (x0 : List Int) (x1 : List Int) (x2 : Int) (x3 : Int) (x4 : Int) (x5 : Bool) : tree EV SV 4000 .any (Law_4 x0 x1 x2 x3 x4 x5) =
  (.stop (Law_5 x0 x1 x2 x3 x4 x5 (if (↑x1.length : Int) < (↑x0.length : Int) then (↑x1.length : Int) else (↑x0.length : Int))) : Tr SV) := by kernel_rfl
noncomputable def Law_6 (x0 : Int) (x1 : Int) (x2 : Int) (x3 : Bool) (x4 : List (List Int × List Int)) (x5 : Int) (x6 : Int) : Cfg T := atCut EV 3 6 0 [(2, some (.int .i64 x0)), (3, some (.int .i64 x1)), (4, some (.int .i64 x2)), (11, some (.bool x3)), (71, some (.sl .n24 x4 (.tok 0 0))), (72, some (.int .i64 x5)), (73, some (.int .i64 x6))] [.vec .n24 0]
theorem Law_5_eq (x0 : List Int) (x1 : List Int) (x2 : Int) (x3 : Int) (x4 : Int) (x5 : Bool) (x6 : Int) : tree EV SV 4000 .any (Law_5 x0 x1 x2 x3 x4 x5 x6) =
  (.need (decide (0 ≤ 0) && decide (0 ≤ x6) && decide (x6 ≤ (↑x0.length : Int))) <|
  .need (decide (0 ≤ 0) && decide (0 ≤ x6) && decide (x6 ≤ (↑x1.length : Int))) <|
  .need (decide (0 ≤ 0) && decide (0 ≤ x6) && decide (x6 ≤ (↑x0.length : Int))) <|
  .call 9 [.sl .n3 (List.drop (Int.toNat 0) (List.take x6.toNat x0)) .no] [] fun (r0 : List Int) =>
  .need (decide (0 ≤ 0) && decide (0 ≤ x6) && decide (x6 ≤ (↑x1.length : Int))) <|
  .call 9 [.sl .n3 (List.drop (Int.toNat 0) (List.take x6.toNat x1)) .no] [] fun (r1 : List Int) =>
  .stop (Law_6 x2 x3 x4 x5 ([(x0, x1), (List.drop (Int.toNat 0) (List.take x6.toNat x0), List.drop (Int.toNat 0) (List.take x6.toNat x1)), (r0, r1)]) ((↑[(x0, x1), (List.drop (Int.toNat 0) (List.take x6.toNat x0), List.drop (Int.toNat 0) (List.take x6.toNat x1)), (r0, r1)].length : Int)) 0) : Tr SV) := by kernel_rfl
noncomputable def Law_16 (x0 : Int) (x1 : Int) (x2 : Int) (x3 : Bool) (x4 : Int) (x5 : List (List Int × List Int)) (x6 : Int) (x7 : Int) (x8 : List Int) (x9 : List Int) : Cfg T := atCut EV 3 16 0 [(2, some (.int .i64 x0)), (3, some (.int .i64 x1)), (4, some (.int .i64 x2)), (11, some (.bool x3)), (14, some (.ptr 0 0)), (31, some (.int .i64 x4)), (71, some (.sl .n24 x5 (.tok 1 0))), (72, some (.int .i64 x6)), (73, some (.int .i64 x7))] [.box 24 [.sl .n3 x8 .no, .sl .n3 x9 .no], .vec .n24 0]
theorem Law_6_eq (x0 : Int) (x1 : Int) (x2 : Int) (x3 : Bool) (x4 : List (List Int × List Int)) (x5 : Int) (x6 : Int) : tree EV SV 4000 (.two (.two (.yes (.yes (.two (.yes (.yes (.two (.yes (.yes (.two (.yes (.yes (.two (.yes (.yes (.two (.yes (.yes (.two (.yes (.yes (.two (.yes (.yes .any)) (.no (.no .any))))) (.no (.no (.no (.no (.no .any)))))))) (.no (.no (.no (.no (.no (.no (.no (.no .any))))))))))) (.no (.no (.no (.no (.no (.no (.no (.no (.no (.no (.no .any)))))))))))))) (.no (.no (.no (.no (.no (.no (.no (.no (.no (.no (.no (.no (.no (.no .any))))))))))))))))) (.no (.no (.no (.no (.no (.no (.no (.no (.no (.no (.no (.no (.no (.no (.no (.no (.no .any)))))))))))))))))))) (.no (.no (.no (.no (.no (.no (.no (.no (.no (.no (.no (.no (.no (.no (.no (.no (.no (.no (.no (.no .any))))))))))))))))))))))) (.no (.no (.no (.no (.no (.no (.no (.no (.no (.no (.no (.no (.no (.no (.no (.no (.no (.no (.no (.no (.no (.no (.no .any)))))))))))))))))))))))) .any) (Law_6 x0 x1 x2 x3 x4 x5 x6) =
  (.br (decide (x6 < x5))
    (.need (decide (0 ≤ x6) && decide (x6 < (↑x4.length : Int))) <|
    .need (true) <|
    .need (true) <|
    .need (true) <|
    .need (true) <|
    .need (true) <|
    .need (true) <|
    .call 10 [.sl .n3 ((x4.getD x6.toNat ([], [])).fst) .no, .sl .n3 ((x4.getD x6.toNat ([], [])).snd) .no] [] fun (r0 : List Int × Int) =>
    .need (true) <|
    .need (true) <|
    .need (true) <|
    .need (true) <|
    .call 11 [.sl .n3 ((x4.getD x6.toNat ([], [])).fst) .no, .sl .n3 ((x4.getD x6.toNat ([], [])).snd) .no] [] fun (r1 : List Int × Int) =>
    .need (true) <|
    .need (true) <|
    .call 12 [.int .i64 x0, .int .i64 x1, .sl .n3 ((x4.getD x6.toNat ([], [])).snd) .no] [] fun (r2 : List S41 × Int × Int) =>
    .need (true) <|
    .need (true) <|
    .call 13 [.int .i64 x0, .int .i64 x1, .sl .n3 ((x4.getD x6.toNat ([], [])).snd) .no] [] fun (r3 : List S41 × Int × Int) =>
    .call 14 [.int .i64 x0, .int .i64 1000000000] [] fun (r4 : Int) =>
    .call 14 [.int .i64 x1, .int .i64 1220] [] fun (r5 : Int) =>
    .need (true) <|
    .need (true) <|
    .call 12 [.int .i64 r4, .int .i64 r5, .sl .n3 ((x4.getD x6.toNat ([], [])).snd) .no] [] fun (r6 : List S41 × Int × Int) =>
    .call 14 [.int .i64 x0, .int .i64 1000000000] [] fun (r7 : Int) =>
    .call 14 [.int .i64 x1, .int .i64 1220] [] fun (r8 : Int) =>
    .need (true) <|
    .need (true) <|
    .call 13 [.int .i64 r7, .int .i64 r8, .sl .n3 ((x4.getD x6.toNat ([], [])).snd) .no] [] fun (r9 : List S41 × Int × Int) =>
    .br (x3)
      (.need true <|
      .need true <|
      .call 15 [.sl .n3 r0.fst .no, .sl .n3 r1.fst .no] [] fun (r10 : Bool) =>
      .br (r10)
        (.need true <|
        .need true <|
        .br (r0.snd == r1.snd)
          (.need true <|
          .need true <|
          .call 16 [.sl .n41 r2.fst .no, .sl .n41 r3.fst .no] [] fun (r11 : Bool) =>
          .br (r11)
            (.need true <|
            .need true <|
            .br (r2.snd.fst == r3.snd.fst)
              (.need true <|
              .need true <|
              .br (r2.snd.snd == r3.snd.snd)
                (.need true <|
                .need true <|
                .call 16 [.sl .n41 r6.fst .no, .sl .n41 r9.fst .no] [] fun (r12 : Bool) =>
                .br (r12)
                  (.need true <|
                  .need true <|
                  .br (r6.snd.fst == r9.snd.fst)
                    (.need true <|
                    .need true <|
                    .stop (Law_16 x0 x1 x2 (r6.snd.snd == r9.snd.snd) 0 x4 x5 x6 ((x4.getD x6.toNat ([], [])).fst) ((x4.getD x6.toNat ([], [])).snd)))
                    (.need true <|
                    .need true <|
                    .need (true) <|
                    .stop (Law_16 x0 x1 x2 false 0 x4 x5 x6 ((x4.getD x6.toNat ([], [])).fst) ((x4.getD x6.toNat ([], [])).snd))))
                  (.need true <|
                  .need true <|
                  .need (true) <|
                  .need true <|
                  .need true <|
                  .need true <|
                  .need (true) <|
                  .stop (Law_16 x0 x1 x2 false 0 x4 x5 x6 ((x4.getD x6.toNat ([], [])).fst) ((x4.getD x6.toNat ([], [])).snd))))
                (.need true <|
                .need true <|
                .need (true) <|
                .need true <|
                .need true <|
                .need true <|
                .need (true) <|
                .need true <|
                .need true <|
                .need true <|
                .need (true) <|
                .stop (Law_16 x0 x1 x2 false 0 x4 x5 x6 ((x4.getD x6.toNat ([], [])).fst) ((x4.getD x6.toNat ([], [])).snd))))
              (.need true <|
              .need true <|
              .need (true) <|
              .need true <|
              .need true <|
              .need true <|
              .need (true) <|
              .need true <|
              .need true <|
              .need true <|
              .need (true) <|
              .need true <|
              .need true <|
              .need true <|
              .need (true) <|
              .stop (Law_16 x0 x1 x2 false 0 x4 x5 x6 ((x4.getD x6.toNat ([], [])).fst) ((x4.getD x6.toNat ([], [])).snd))))
            (.need true <|
            .need true <|
            .need (true) <|
            .need true <|
            .need true <|
            .need true <|
            .need (true) <|
            .need true <|
            .need true <|
            .need true <|
            .need (true) <|
            .need true <|
            .need true <|
            .need true <|
            .need (true) <|
            .need true <|
            .need true <|
            .need true <|
            .need (true) <|
            .stop (Law_16 x0 x1 x2 false 0 x4 x5 x6 ((x4.getD x6.toNat ([], [])).fst) ((x4.getD x6.toNat ([], [])).snd))))
          (.need true <|
          .need true <|
          .need (true) <|
          .need true <|
          .need true <|
          .need true <|
          .need (true) <|
          .need true <|
          .need true <|
          .need true <|
          .need (true) <|
          .need true <|
          .need true <|
          .need true <|
          .need (true) <|
          .need true <|
          .need true <|
          .need true <|
          .need (true) <|
          .need true <|
          .need true <|
          .need true <|
          .need (true) <|
          .stop (Law_16 x0 x1 x2 false 0 x4 x5 x6 ((x4.getD x6.toNat ([], [])).fst) ((x4.getD x6.toNat ([], [])).snd))))
        (.need true <|
        .need true <|
        .need (true) <|
        .need true <|
        .need true <|
        .need true <|
        .need (true) <|
        .need true <|
        .need true <|
        .need true <|
        .need (true) <|
        .need true <|
        .need true <|
        .need true <|
        .need (true) <|
        .need true <|
        .need true <|
        .need true <|
        .need (true) <|
        .need true <|
        .need true <|
        .need true <|
        .need (true) <|
        .need true <|
        .need true <|
        .need true <|
        .need (true) <|
        .stop (Law_16 x0 x1 x2 false 0 x4 x5 x6 ((x4.getD x6.toNat ([], [])).fst) ((x4.getD x6.toNat ([], [])).snd))))
      (.need true <|
      .need true <|
      .need (true) <|
      .need true <|
      .need true <|
      .need true <|
      .need (true) <|
      .need true <|
      .need true <|
      .need true <|
      .need (true) <|
      .need true <|
      .need true <|
      .need true <|
      .need (true) <|
      .need true <|
      .need true <|
      .need true <|
      .need (true) <|
      .need true <|
      .need true <|
      .need true <|
      .need (true) <|
      .need true <|
      .need true <|
      .need true <|
      .need (true) <|
      .need true <|
      .need true <|
      .need true <|
      .need (true) <|
      .stop (Law_16 x0 x1 x2 false 0 x4 x5 x6 ((x4.getD x6.toNat ([], [])).fst) ((x4.getD x6.toNat ([], [])).snd))))
    (.ret (.bool x3) []) : Tr SV) := by kernel_rfl
theorem Law_16_eq (x0 : Int) (x1 : Int) (x2 : Int) (x3 : Bool) (x4 : Int) (x5 : List (List Int × List Int)) (x6 : Int) (x7 : Int) (x8 : List Int) (x9 : List Int) : tree EV SV 4000 (.two (.yes (.yes (.yes (.yes (.two (.yes (.two (.two (.yes (.yes (.two (.yes (.yes .any)) (.no (.no .any))))) (.no (.no (.no (.no (.no .any)))))) .any)) (.no (.no .any))))))) (.no (.no (.no (.no (.no (.no (.no .any)))))))) (Law_16 x0 x1 x2 x3 x4 x5 x6 x7 x8 x9) =
  (.need (true) <|
  .need (true) <|
  .br (decide (x4 < (↑x8.length : Int)))
    (.need true <|
    .need (true) <|
    .need true <|
    .need (true) <|
    .need true <|
    .need true <|
    .br (decide (x4 < (↑x9.length : Int)))
      (.need true <|
      .br (decide (x4 < 5))
        (.need (true) <|
        .need (true) <|
        .need (decide (0 ≤ x4) && decide (x4 < (↑x8.length : Int))) <|
        .need (true) <|
        .need (true) <|
        .need (decide (0 ≤ x4) && decide (x4 < (↑x9.length : Int))) <|
        .call 17 [.int .i64 (x8.getD x4.toNat 0), .int .i64 x2, .int .i64 (x9.getD x4.toNat 0)] [] fun (r0 : Int × Int) =>
        .need (true) <|
        .need (true) <|
        .need (decide (0 ≤ x4) && decide (x4 < (↑x8.length : Int))) <|
        .need (true) <|
        .need (true) <|
        .need (decide (0 ≤ x4) && decide (x4 < (↑x9.length : Int))) <|
        .call 18 [.int .i64 (x8.getD x4.toNat 0), .int .i64 x2, .int .i64 (x9.getD x4.toNat 0)] [] fun (r1 : Int × Int) =>
        .br (x3)
          (.need true <|
          .need true <|
          .br (r0.fst == r1.fst)
            (.need true <|
            .need true <|
            .stop (Law_16 x0 x1 x2 (r0.snd == r1.snd) (IntKind.i64.wrap (x4 + 1)) x5 x6 x7 x8 x9))
            (.need true <|
            .need true <|
            .need (true) <|
            .stop (Law_16 x0 x1 x2 false (IntKind.i64.wrap (x4 + 1)) x5 x6 x7 x8 x9)))
          (.need true <|
          .need true <|
          .need (true) <|
          .need true <|
          .need true <|
          .need true <|
          .need (true) <|
          .stop (Law_16 x0 x1 x2 false (IntKind.i64.wrap (x4 + 1)) x5 x6 x7 x8 x9)))
        (.stop (Law_6 x0 x1 x2 x3 x5 x6 (IntKind.i64.wrap (x7 + 1)))))
      (.need true <|
      .need (true) <|
      .need true <|
      .stop (Law_6 x0 x1 x2 x3 x5 x6 (IntKind.i64.wrap (x7 + 1)))))
    (.need true <|
    .need true <|
    .need true <|
    .need true <|
    .need (true) <|
    .need true <|
    .need true <|
    .need (true) <|
    .need true <|
    .stop (Law_6 x0 x1 x2 x3 x5 x6 (IntKind.i64.wrap (x7 + 1)))) : Tr SV) := by kernel_rfl
end Go.Proofs.Ytpgghakjbghagaa.AI
