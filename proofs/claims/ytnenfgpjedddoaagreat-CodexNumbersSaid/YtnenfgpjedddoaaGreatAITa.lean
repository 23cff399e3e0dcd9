/- Decision trees of functions: written by a program of mine (aigen.py), proved by the kernel's own computation. -/
import Derived.Test.YtnenfgpjedddoaaGreatAISay
set_option maxRecDepth 100000
set_option linter.unusedVariables false
namespace Go.Proofs.YtnenfgpjedddoaaGreat.AI
open Go
noncomputable def RCount_0 (a0 : S60) (a1 : Int) : Cfg T := entryC EV 130 [.agg (encT .n60 a0), .int .i64 a1] []
noncomputable def RCount_5 (x0 : Int) (x1 : Int) (x2 : Int) (x3 : S60) : Cfg T := atCut EV 130 5 0 [(1, some (.int .i64 x0)), (2, some (.ptr 0 0)), (5, some (.int .i64 x1)), (6, some (.int .i64 x2))] [.box 60 (encT .n60 x3)]
theorem RCount_0_eq (a0 : S60) (a1 : Int) : tree EV SV 4000 .any (RCount_0 a0 a1) =
  (nd 1 <|
  .br (decide (a1 ≤ 0))
    (.ret (.int .i64 0) [])
    (.stop (RCount_5 a1 1 0 a0))   : Tr SV) := by kernel_rfl
theorem RCount_5_eq (x0 : Int) (x1 : Int) (x2 : Int) (x3 : S60) : tree EV SV 4000 (.two (.yes (.yes .any)) (.no (.no (.no .any)))) (RCount_5 x0 x1 x2 x3) =
  (nd 1 <|
  .br (decide (x2 < (↑x3.f4.length : Int)))
    (nd 2 <|
  .br (decide (x1 < x0))
      (nd 1 <|
  .need (decide (0 ≤ x2) && decide (x2 < (↑x3.f4.length : Int))) <|
      .call 130 [.agg (encT .n60 (x3.f4.getD x2.toNat d60)), .int .i64 (IntKind.i64.wrap (x0 - x1))] [] fun (r0 : Int) =>
      .stop (RCount_5 x0 (IntKind.i64.wrap (x1 + r0)) (IntKind.i64.wrap (x2 + 1)) x3))
      (.ret (.int .i64 x1) []))
    (nd 4 <|
  .ret (.int .i64 x1) [])   : Tr SV) := by kernel_rfl
noncomputable def RSmall_0 (a0 : S60) (a1 : Int) : Cfg T := entryC EV 79 [.agg (encT .n60 a0), .int .i64 a1] []
theorem RSmall_0_eq (a0 : S60) (a1 : Int) : tree EV SV 4000 .any (RSmall_0 a0 a1) =
  (nd 2 <|
  .call 130 [.agg (encT .n60 a0), .int .i64 (IntKind.i64.wrap (a1 + 1))] [] fun (r0 : Int) =>
  .ret (.bool (decide (r0 ≤ a1))) []   : Tr SV) := by kernel_rfl
noncomputable def RFew_0 (a0 : S31) (a1 : Int) : Cfg T := entryC EV 44 [.agg (encT .n31 a0), .int .i64 a1] []
noncomputable def RFew_4 (x0 : Int) (x1 : Int) (x2 : S31) : Cfg T := atCut EV 44 4 0 [(1, some (.int .i64 x0)), (2, some (.ptr 0 0)), (5, some (.int .i64 x1))] [.box 31 (encT .n31 x2)]
theorem RFew_0_eq (a0 : S31) (a1 : Int) : tree EV SV 4000 (.two (.yes (.yes (.yes (.two (.yes (.yes (.yes .any))) (.no (.no (.no (.yes .any)))))))) (.no (.no (.no (.no (.no (.no (.no (.yes .any))))))))) (RFew_0 a0 a1) =
  (nd 2 <|
  .br (!decide (40 < (↑a0.f0.length : Int)))
    (nd 4 <|
  .br (!decide (40 < (↑a0.f1.length : Int)))
      (nd 4 <|
  .br (decide (70 < (↑a0.f2.length : Int)))
        (.ret (.bool false) [])
        (.stop (RFew_4 a1 0 a0)))
      (nd 5 <|
  .ret (.bool false) []))
    (nd 10 <|
  .ret (.bool false) [])   : Tr SV) := by kernel_rfl
noncomputable def RFew_10 (x0 : Int) (x1 : Int) (x2 : Int) (x3 : S31) (x4 : S62) : Cfg T := atCut EV 44 10 0 [(1, some (.int .i64 x0)), (2, some (.ptr 0 0)), (5, some (.int .i64 x1)), (6, some (.ptr 1 0)), (7, some (.int .i64 x2))] [.box 31 (encT .n31 x3), .box 62 (encT .n62 x4)]
theorem RFew_4_eq (x0 : Int) (x1 : Int) (x2 : S31) : tree EV SV 4000 (.two (.two (.yes (.yes (.yes (.two (.yes (.yes (.yes (.yes .any)))) (.no (.no (.no (.no (.yes .any))))))))) (.no (.no (.no (.no (.no (.no (.no (.no (.yes .any)))))))))) .any) (RFew_4 x0 x1 x2) =
  (nd 1 <|
  .br (decide (x1 < (↑x2.f2.length : Int)))
    (nd 1 <|
  .need (decide (0 ≤ x1) && decide (x1 < (↑x2.f2.length : Int))) <|
    nd 3 <|
  .br (!decide (40 < (↑(x2.f2.getD x1.toNat d62).f6.length : Int)))
      (nd 4 <|
  .br (!decide (80 < (↑(x2.f2.getD x1.toNat d62).f7.length : Int)))
        (nd 4 <|
  .call 79 [.agg (encT .n60 ((x2.f2.getD x1.toNat d62).f8)), .int .i64 x0] [] fun (r0 : Bool) =>
        nd 1 <|
  .br (!r0)
          (.ret (.bool false) [])
          (.stop (RFew_10 x0 x1 0 x2 (x2.f2.getD x1.toNat d62))))
        (nd 6 <|
  .ret (.bool false) []))
      (nd 11 <|
  .ret (.bool false) []))
    (.ret (.bool true) [])   : Tr SV) := by kernel_rfl
theorem RFew_10_eq (x0 : Int) (x1 : Int) (x2 : Int) (x3 : S31) (x4 : S62) : tree EV SV 4000 .any (RFew_10 x0 x1 x2 x3 x4) =
  (nd 1 <|
  .br (decide (x2 < (↑x4.f6.length : Int)))
    (nd 1 <|
  .need (decide (0 ≤ x2) && decide (x2 < (↑x4.f6.length : Int))) <|
    .call 79 [.agg (encT .n60 (x4.f6.getD x2.toNat d60)), .int .i64 x0] [] fun (r0 : Bool) =>
    .br (!r0)
      (.ret (.bool false) [])
      (.stop (RFew_10 x0 x1 (IntKind.i64.wrap (x2 + 1)) x3 x4)))
    (.stop (RFew_4 x0 (IntKind.i64.wrap (x1 + 1)) x3))   : Tr SV) := by kernel_rfl
noncomputable def SameFunc_0 (a0 : S24) (a1 : S24) : Cfg T := entryC EV 77 [.agg (encT .n24 a0), .agg (encT .n24 a1)] []
noncomputable def SameFunc_4 (x0 : Int) (x1 : S24) (x2 : S24) : Cfg T := atCut EV 77 4 0 [(2, some (.ptr 0 0)), (3, some (.ptr 1 0)), (5, some (.int .i64 x0))] [.box 24 (encT .n24 x1), .box 24 (encT .n24 x2)]
theorem SameFunc_0_eq (a0 : S24) (a1 : S24) : tree EV SV 4000 (.two (.yes (.yes (.yes (.yes (.yes (.yes .any)))))) (.no (.no (.no (.no (.no (.no (.yes .any)))))))) (SameFunc_0 a0 a1) =
  (nd 4 <|
  .br (!!a0.f0 == a1.f0)
    (nd 8 <|
  .br (!(↑a0.f1.length : Int) == (↑a1.f1.length : Int))
      (.ret (.bool false) [])
      (.stop (SameFunc_4 0 a0 a1)))
    (nd 8 <|
  .ret (.bool false) [])   : Tr SV) := by kernel_rfl
theorem SameFunc_4_eq (x0 : Int) (x1 : S24) (x2 : S24) : tree EV SV 4000 .any (SameFunc_4 x0 x1 x2) =
  (nd 1 <|
  .br (decide (x0 < (↑x1.f1.length : Int)))
    (nd 1 <|
  .need (decide (0 ≤ x0) && decide (x0 < (↑x1.f1.length : Int))) <|
    nd 1 <|
  .need (decide (0 ≤ x0) && decide (x0 < (↑x2.f1.length : Int))) <|
    .br (!((x1.f1.getD x0.toNat d158).f0 == (x2.f1.getD x0.toNat d158).f0 && ((x1.f1.getD x0.toNat d158).f1 == (x2.f1.getD x0.toNat d158).f1 && ((x1.f1.getD x0.toNat d158).f2 == (x2.f1.getD x0.toNat d158).f2 && true))))
      (.ret (.bool false) [])
      (.stop (SameFunc_4 (IntKind.i64.wrap (x0 + 1)) x1 x2)))
    (.ret (.bool true) [])   : Tr SV) := by kernel_rfl
noncomputable def RSame_0 (a0 : S60) (a1 : S60) : Cfg T := entryC EV 41 [.agg (encT .n60 a0), .agg (encT .n60 a1)] []
noncomputable def RSame_4 (x0 : Int) (x1 : S60) (x2 : S60) : Cfg T := atCut EV 41 4 0 [(2, some (.ptr 0 0)), (3, some (.ptr 1 0)), (5, some (.int .i64 x0))] [.box 60 (encT .n60 x1), .box 60 (encT .n60 x2)]
theorem RSame_0_eq (a0 : S60) (a1 : S60) : tree EV SV 4000 (.two (.yes (.yes (.yes (.yes (.two (.yes (.yes (.yes (.yes (.two (.yes (.yes (.yes (.yes (.yes (.two (.yes (.yes (.yes (.yes (.yes (.yes .any)))))) (.no (.no (.no (.no (.no (.no (.yes .any))))))))))))) (.no (.no (.no (.no (.no (.no (.no (.no (.no (.no (.no (.no (.yes .any)))))))))))))))))) (.no (.no (.no (.no (.no (.no (.no (.no (.no (.no (.no (.no (.no (.no (.no (.no (.no (.yes .any))))))))))))))))))))))) (.no (.no (.no (.no (.no (.no (.no (.no (.no (.no (.no (.no (.no (.no (.no (.no (.no (.no (.no (.no (.no (.no (.yes .any)))))))))))))))))))))))) (RSame_0 a0 a1) =
  (nd 4 <|
  .br (!!a0.f0 == a1.f0)
    (nd 6 <|
  .br (!!a0.f1 == a1.f1)
      (nd 6 <|
  .br (!!a0.f2 == a1.f2)
        (nd 6 <|
  .call 77 [.agg (encT .n24 a0.f3), .agg (encT .n24 a1.f3)] [] fun (r0 : Bool) =>
        nd 1 <|
  .br (!!r0)
          (nd 8 <|
  .br (!(↑a0.f4.length : Int) == (↑a1.f4.length : Int))
            (.ret (.bool false) [])
            (.stop (RSame_4 0 a0 a1)))
          (nd 8 <|
  .ret (.bool false) []))
        (nd 15 <|
  .ret (.bool false) []))
      (nd 21 <|
  .ret (.bool false) []))
    (nd 27 <|
  .ret (.bool false) [])   : Tr SV) := by kernel_rfl
theorem RSame_4_eq (x0 : Int) (x1 : S60) (x2 : S60) : tree EV SV 4000 .any (RSame_4 x0 x1 x2) =
  (nd 1 <|
  .br (decide (x0 < (↑x1.f4.length : Int)))
    (nd 1 <|
  .need (decide (0 ≤ x0) && decide (x0 < (↑x1.f4.length : Int))) <|
    nd 1 <|
  .need (decide (0 ≤ x0) && decide (x0 < (↑x2.f4.length : Int))) <|
    .call 41 [.agg (encT .n60 (x1.f4.getD x0.toNat d60)), .agg (encT .n60 (x2.f4.getD x0.toNat d60))] [] fun (r0 : Bool) =>
    .br (!r0)
      (.ret (.bool false) [])
      (.stop (RSame_4 (IntKind.i64.wrap (x0 + 1)) x1 x2)))
    (.ret (.bool true) [])   : Tr SV) := by kernel_rfl
noncomputable def SameInts_0 (a0 : List Int) (a1 : List Int) : Cfg T := entryC EV 26 [.sl .n3 a0 .no, .sl .n3 a1 .no] []
noncomputable def SameInts_4 (x0 : List Int) (x1 : List Int) (x2 : Int) : Cfg T := atCut EV 26 4 0 [(0, some (.sl .n3 x0 .no)), (1, some (.sl .n3 x1 .no)), (5, some (.int .i64 x2))] []
theorem SameInts_0_eq (a0 : List Int) (a1 : List Int) : tree EV SV 4000 .any (SameInts_0 a0 a1) =
  (.br (!(↑a0.length : Int) == (↑a1.length : Int))
    (.ret (.bool false) [])
    (.stop (SameInts_4 a0 a1 0))   : Tr SV) := by kernel_rfl
theorem SameInts_4_eq (x0 : List Int) (x1 : List Int) (x2 : Int) : tree EV SV 4000 .any (SameInts_4 x0 x1 x2) =
  (.br (decide (x2 < (↑x0.length : Int)))
    (.need (decide (0 ≤ x2) && decide (x2 < (↑x0.length : Int))) <|
    .need (decide (0 ≤ x2) && decide (x2 < (↑x1.length : Int))) <|
    .br (!x0.getD x2.toNat 0 == x1.getD x2.toNat 0)
      (.ret (.bool false) [])
      (.stop (SameInts_4 x0 x1 (IntKind.i64.wrap (x2 + 1)))))
    (.ret (.bool true) [])   : Tr SV) := by kernel_rfl
noncomputable def SameExprs_0 (a0 : List S60) (a1 : List S60) : Cfg T := entryC EV 75 [.sl .n60 a0 .no, .sl .n60 a1 .no] []
noncomputable def SameExprs_4 (x0 : List S60) (x1 : List S60) (x2 : Int) : Cfg T := atCut EV 75 4 0 [(0, some (.sl .n60 x0 .no)), (1, some (.sl .n60 x1 .no)), (5, some (.int .i64 x2))] []
theorem SameExprs_0_eq (a0 : List S60) (a1 : List S60) : tree EV SV 4000 .any (SameExprs_0 a0 a1) =
  (.br (!(↑a0.length : Int) == (↑a1.length : Int))
    (.ret (.bool false) [])
    (.stop (SameExprs_4 a0 a1 0))   : Tr SV) := by kernel_rfl
theorem SameExprs_4_eq (x0 : List S60) (x1 : List S60) (x2 : Int) : tree EV SV 4000 .any (SameExprs_4 x0 x1 x2) =
  (.br (decide (x2 < (↑x0.length : Int)))
    (.need (decide (0 ≤ x2) && decide (x2 < (↑x0.length : Int))) <|
    .need (decide (0 ≤ x2) && decide (x2 < (↑x1.length : Int))) <|
    .call 41 [.agg (encT .n60 (x0.getD x2.toNat d60)), .agg (encT .n60 (x1.getD x2.toNat d60))] [] fun (r0 : Bool) =>
    .br (!r0)
      (.ret (.bool false) [])
      (.stop (SameExprs_4 x0 x1 (IntKind.i64.wrap (x2 + 1)))))
    (.ret (.bool true) [])   : Tr SV) := by kernel_rfl
noncomputable def SameArticle_0 (a0 : S62) (a1 : S62) : Cfg T := entryC EV 34 [.agg (encT .n62 a0), .agg (encT .n62 a1)] []
theorem SameArticle_0_eq (a0 : S62) (a1 : S62) : tree EV SV 4000 (.two (.yes (.yes (.yes (.yes (.two (.yes (.yes (.yes (.yes (.two (.yes (.yes (.yes (.yes (.two (.yes (.yes (.yes (.yes (.two (.yes (.yes (.yes (.yes (.two (.yes (.yes (.yes (.yes (.two (.yes (.yes (.yes (.yes (.two (.yes (.yes (.yes (.yes .any)))) (.no (.no (.no (.no .any))))))))) (.no (.no (.no (.no (.no (.no (.no (.no (.no .any)))))))))))))) (.no (.no (.no (.no (.no (.no (.no (.no (.no (.no (.no (.no (.no (.no .any))))))))))))))))))) (.no (.no (.no (.no (.no (.no (.no (.no (.no (.no (.no (.no (.no (.no (.no (.no (.no (.no (.no .any)))))))))))))))))))))))) (.no (.no (.no (.no (.no (.no (.no (.no (.no (.no (.no (.no (.no (.no (.no (.no (.no (.no (.no (.no (.no (.no (.no (.no .any))))))))))))))))))))))))))))) (.no (.no (.no (.no (.no (.no (.no (.no (.no (.no (.no (.no (.no (.no (.no (.no (.no (.no (.no (.no (.no (.no (.no (.no (.no (.no (.no (.no (.no .any)))))))))))))))))))))))))))))))))) (.no (.no (.no (.no (.no (.no (.no (.no (.no (.no (.no (.no (.no (.no (.no (.no (.no (.no (.no (.no (.no (.no (.no (.no (.no (.no (.no (.no (.no (.no (.no (.no (.no (.no .any))))))))))))))))))))))))))))))))))))))) (.no (.no (.no (.no (.no (.no (.no (.no (.no (.no (.no (.no (.no (.no (.no (.no (.no (.no (.no (.no (.no (.no (.no (.no (.no (.no (.no (.no (.no (.no (.no (.no (.no (.no (.no (.no (.no (.no (.no .any)))))))))))))))))))))))))))))))))))))))) (SameArticle_0 a0 a1) =
  (nd 4 <|
  .br (a0.f0 == a1.f0)
    (nd 6 <|
  .br (a0.f1 == a1.f1)
      (nd 6 <|
  .br (a0.f2 == a1.f2)
        (nd 6 <|
  .br (a0.f3 == a1.f3)
          (nd 6 <|
  .br (a0.f4 == a1.f4)
            (nd 6 <|
  .br (a0.f5 == a1.f5)
              (nd 6 <|
  .call 75 [.sl .n60 a0.f6 .no, .sl .n60 a1.f6 .no] [] fun (r0 : Bool) =>
              .br (r0)
                (nd 6 <|
  .call 26 [.sl .n3 a0.f7 .no, .sl .n3 a1.f7 .no] [] fun (r1 : Bool) =>
                .br (r1)
                  (nd 6 <|
  .call 41 [.agg (encT .n60 a0.f8), .agg (encT .n60 a1.f8)] [] fun (r2 : Bool) =>
                  .ret (.bool r2) [])
                  (nd 5 <|
  .ret (.bool false) []))
                (nd 11 <|
  .ret (.bool false) []))
              (nd 17 <|
  .ret (.bool false) []))
            (nd 23 <|
  .ret (.bool false) []))
          (nd 29 <|
  .ret (.bool false) []))
        (nd 35 <|
  .ret (.bool false) []))
      (nd 41 <|
  .ret (.bool false) []))
    (nd 47 <|
  .ret (.bool false) [])   : Tr SV) := by kernel_rfl
noncomputable def CVersion_0 (a0 : S31) (a1 : Int) (a2 : Int) (a3 : Int) : Cfg T := entryC EV 16 [.agg (encT .n31 a0), .int .i64 a1, .int .i64 a2, .int .i64 a3] []
noncomputable def CVersion_3 (x0 : Int) (x1 : Int) (x2 : Int) (x3 : Int) (x4 : Bool) (x5 : List S62) (x6 : Int) (x7 : Int) (x8 : S31) : Cfg T := atCut EV 16 3 0 [(1, some (.int .i64 x0)), (2, some (.int .i64 x1)), (3, some (.int .i64 x2)), (4, some (.ptr 0 0)), (10, some (.int .i64 x3)), (11, some (.bool x4)), (15, some (.sl .n62 x5 .no)), (16, some (.int .i64 x6)), (17, some (.int .i64 x7))] [.box 31 (encT .n31 x8)]
theorem CVersion_0_eq (a0 : S31) (a1 : Int) (a2 : Int) (a3 : Int) : tree EV SV 4000 .any (CVersion_0 a0 a1 a2 a3) =
  (nd 2 <|
  .stop (CVersion_3 a1 a2 a3 0 false a0.f2 ((↑a0.f2.length : Int)) 0 a0)   : Tr SV) := by kernel_rfl
theorem CVersion_3_eq (x0 : Int) (x1 : Int) (x2 : Int) (x3 : Int) (x4 : Bool) (x5 : List S62) (x6 : Int) (x7 : Int) (x8 : S31) : tree EV SV 4000 (.two (.two (.yes (.yes (.yes (.two (.yes (.yes (.yes (.two (.yes (.yes (.yes (.two (.yes (.yes (.two (.yes (.yes (.yes (.yes (.yes (.yes (.yes (.yes (.yes .any))))))))) (.no (.no (.no (.no (.no (.no (.no (.no (.yes (.yes .any))))))))))))) (.no (.no (.no (.no .any)))))))) (.no (.no (.no (.no (.no (.no (.no (.no .any)))))))))))) (.no (.no (.no (.no (.no (.no (.no (.no (.no (.no (.no (.no .any)))))))))))))))) (.no (.no (.no (.no (.no (.no (.no (.no (.no (.no (.no (.no (.no (.no (.no (.no .any))))))))))))))))) .any) (CVersion_3 x0 x1 x2 x3 x4 x5 x6 x7 x8) =
  (.br (decide (x7 < x6))
    (.need (decide (0 ≤ x7) && decide (x7 < (↑x5.length : Int))) <|
    nd 3 <|
  .br ((x5.getD x7.toNat d62).f0 == x0)
      (nd 4 <|
  .br (decide ((x5.getD x7.toNat d62).f3 ≤ x1))
        (nd 4 <|
  .br (decide (x1 < (x5.getD x7.toNat d62).f4))
          (nd 4 <|
  .br (decide ((x5.getD x7.toNat d62).f5 ≤ x2))
            (nd 2 <|
  .br (!!x4)
              (nd 7 <|
  .need (decide (0 ≤ x3) && decide (x3 < (↑x8.f2.length : Int))) <|
              nd 4 <|
  .br (decide ((x8.f2.getD x3.toNat d62).f5 ≤ (x5.getD x7.toNat d62).f5))
                (.stop (CVersion_3 x0 x1 x2 x7 true x5 x6 (IntKind.i64.wrap (x7 + 1)) x8))
                (.stop (CVersion_3 x0 x1 x2 x3 x4 x5 x6 (IntKind.i64.wrap (x7 + 1)) x8)))
              (nd 11 <|
  .stop (CVersion_3 x0 x1 x2 x7 true x5 x6 (IntKind.i64.wrap (x7 + 1)) x8)))
            (nd 5 <|
  .stop (CVersion_3 x0 x1 x2 x3 x4 x5 x6 (IntKind.i64.wrap (x7 + 1)) x8)))
          (nd 10 <|
  .stop (CVersion_3 x0 x1 x2 x3 x4 x5 x6 (IntKind.i64.wrap (x7 + 1)) x8)))
        (nd 15 <|
  .stop (CVersion_3 x0 x1 x2 x3 x4 x5 x6 (IntKind.i64.wrap (x7 + 1)) x8)))
      (nd 20 <|
  .stop (CVersion_3 x0 x1 x2 x3 x4 x5 x6 (IntKind.i64.wrap (x7 + 1)) x8)))
    (.ret (.tup [.int .i64 x3, .bool x4]) [])   : Tr SV) := by kernel_rfl
noncomputable def RVersion_0 (a0 : S31) (a1 : Int) (a2 : Int) (a3 : Int) : Cfg T := entryC EV 17 [.agg (encT .n31 a0), .int .i64 a1, .int .i64 a2, .int .i64 a3] []
noncomputable def RVersion_3 (x0 : Int) (x1 : Int) (x2 : Int) (x3 : Int) (x4 : Int) (x5 : S31) : Cfg T := atCut EV 17 3 0 [(1, some (.int .i64 x0)), (2, some (.int .i64 x1)), (3, some (.int .i64 x2)), (4, some (.ptr 0 0)), (10, some (.int .i64 x3)), (11, some (.int .i64 x4))] [.box 31 (encT .n31 x5)]
theorem RVersion_0_eq (a0 : S31) (a1 : Int) (a2 : Int) (a3 : Int) : tree EV SV 4000 .any (RVersion_0 a0 a1 a2 a3) =
  (nd 1 <|
  .stop (RVersion_3 a1 a2 a3 (-1) 0 a0)   : Tr SV) := by kernel_rfl
theorem RVersion_3_eq (x0 : Int) (x1 : Int) (x2 : Int) (x3 : Int) (x4 : Int) (x5 : S31) : tree EV SV 4000 (.two (.two (.yes (.yes (.yes (.two (.yes (.yes (.yes (.two (.yes (.yes (.yes (.two (.yes (.yes (.two (.yes (.yes (.yes (.yes (.yes (.yes (.yes (.yes (.yes .any))))))))) (.no (.no (.no (.no (.no (.no (.no (.no (.yes (.yes .any))))))))))))) (.no (.no (.no (.no .any)))))))) (.no (.no (.no (.no (.no (.no (.no (.no .any)))))))))))) (.no (.no (.no (.no (.no (.no (.no (.no (.no (.no (.no (.no .any)))))))))))))))) (.no (.no (.no (.no (.no (.no (.no (.no (.no (.no (.no (.no (.no (.no (.no (.no .any))))))))))))))))) .any) (RVersion_3 x0 x1 x2 x3 x4 x5) =
  (nd 1 <|
  .br (decide (x4 < (↑x5.f2.length : Int)))
    (nd 1 <|
  .need (decide (0 ≤ x4) && decide (x4 < (↑x5.f2.length : Int))) <|
    nd 3 <|
  .br ((x5.f2.getD x4.toNat d62).f0 == x0)
      (nd 4 <|
  .br (decide ((x5.f2.getD x4.toNat d62).f3 ≤ x1))
        (nd 4 <|
  .br (decide (x1 < (x5.f2.getD x4.toNat d62).f4))
          (nd 4 <|
  .br (decide ((x5.f2.getD x4.toNat d62).f5 ≤ x2))
            (nd 2 <|
  .br (!decide (x3 < 0))
              (nd 7 <|
  .need (decide (0 ≤ x3) && decide (x3 < (↑x5.f2.length : Int))) <|
              nd 4 <|
  .br (decide ((x5.f2.getD x3.toNat d62).f5 ≤ (x5.f2.getD x4.toNat d62).f5))
                (.stop (RVersion_3 x0 x1 x2 x4 (IntKind.i64.wrap (x4 + 1)) x5))
                (.stop (RVersion_3 x0 x1 x2 x3 (IntKind.i64.wrap (x4 + 1)) x5)))
              (nd 11 <|
  .stop (RVersion_3 x0 x1 x2 x4 (IntKind.i64.wrap (x4 + 1)) x5)))
            (nd 5 <|
  .stop (RVersion_3 x0 x1 x2 x3 (IntKind.i64.wrap (x4 + 1)) x5)))
          (nd 10 <|
  .stop (RVersion_3 x0 x1 x2 x3 (IntKind.i64.wrap (x4 + 1)) x5)))
        (nd 15 <|
  .stop (RVersion_3 x0 x1 x2 x3 (IntKind.i64.wrap (x4 + 1)) x5)))
      (nd 20 <|
  .stop (RVersion_3 x0 x1 x2 x3 (IntKind.i64.wrap (x4 + 1)) x5)))
    (.ret (.tup [.int .i64 (if 0 > x3 then 0 else x3), .bool (decide (0 ≤ x3))]) [])   : Tr SV) := by kernel_rfl
noncomputable def LSmall_0 (a0 : S31) : Cfg T := entryC EV 13 [.agg (encT .n31 a0)] []
theorem LSmall_0_eq (a0 : S31) : tree EV SV 4000 .any (LSmall_0 a0) =
  (nd 2 <|
  .call 44 [.agg (encT .n31 a0), .int .i64 420] [] fun (r0 : Bool) =>
  .ret (.bool r0) []   : Tr SV) := by kernel_rfl
noncomputable def LVersions_0 (a0 : S31) (a1 : Int) (a2 : Int) (a3 : Int) : Cfg T := entryC EV 5 [.agg (encT .n31 a0), .int .i64 a1, .int .i64 a2, .int .i64 a3] []
noncomputable def LVersions_10 (x0 : Bool) (x1 : Int) (x2 : Bool) (x3 : List S62) (x4 : Int) (x5 : Int) (x6 : S31) (x7 : Int) (x8 : Int) (x9 : Int) (x10 : List S57) (x11 : List S57) (x12 : List S62) : Cfg T := atCut EV 5 10 0 [(4, some (.ptr 0 0)), (5, some (.ptr 1 0)), (6, some (.ptr 2 0)), (7, some (.ptr 3 0)), (9, some (.bool x0)), (10, some (.int .i64 x1)), (11, some (.bool x2)), (12, some (.fn 33 [] [.ptr 1 0, .ptr 2 0, .ptr 3 0])), (13, some (.ptr 4 0)), (55, some (.sl .n62 x3 .no)), (56, some (.int .i64 x4)), (57, some (.int .i64 x5))] [.box 31 (encT .n31 x6), .box 3 [.int .i64 x7], .box 3 [.int .i64 x8], .box 3 [.int .i64 x9], .box 31 [.sl .n57 x10 (.tok 5 0), .sl .n57 x11 (.tok 6 0), .sl .n62 x12 (.tok 7 0)], .vec .n57 0, .vec .n57 0, .vec .n62 0]
theorem LVersions_0_eq (a0 : S31) (a1 : Int) (a2 : Int) (a3 : Int) : tree EV SV 4000 (.two .any (.two (.yes (.yes (.two (.yes (.yes (.yes (.yes (.yes (.yes (.two (.yes (.yes (.yes (.yes (.yes (.yes (.yes (.yes .any)))))))) (.no (.no (.no (.no (.no (.no (.no (.yes (.yes .any)))))))))))))))) (.no (.no (.no (.no (.yes (.yes (.no (.no (.no (.no (.no (.no (.no (.no (.yes (.yes .any))))))))))))))))))) (.no (.no (.no (.no (.no (.no .any)))))))) (LVersions_0 a0 a1 a2 a3) =
  (nd 4 <|
  .call 11 [] [] fun (r0 : Bool) =>
  nd 1 <|
  .call 13 [.agg (encT .n31 a0)] [] fun (r1 : Bool) =>
  .br (!r1)
    (.ret (.bool r0) [])
    (nd 4 <|
  .call 16 [.agg (encT .n31 a0), .int .i64 a1, .int .i64 a2, .int .i64 a3] [] fun (r2 : Int × Bool) =>
    .br (r2.snd)
      (nd 2 <|
  .br (!decide (r2.fst < 0))
        (nd 7 <|
  .br (!decide ((↑a0.f2.length : Int) ≤ r2.fst))
          (nd 5 <|
  .need (decide (0 ≤ r2.fst) && decide (r2.fst < (↑a0.f2.length : Int))) <|
          nd 2 <|
  .call 33 [.agg (encT .n62 (a0.f2.getD r2.fst.toNat d62)), .ptr 0 0, .ptr 1 0, .ptr 2 0] [.box 3 [.int .i64 a1], .box 3 [.int .i64 a2], .box 3 [.int .i64 a3]] fun (r3 : Bool × Int × Int × Int) =>
          nd 2 <|
  .br (!r3.fst)
            (.ret (.bool false) [])
            (nd 2 <|
  .stop (LVersions_10 r0 r2.fst r2.snd a0.f2 ((↑a0.f2.length : Int)) 0 a0 r3.snd.fst r3.snd.snd.fst r3.snd.snd.snd [] [] [])))
          (nd 10 <|
  .ret (.bool false) []))
        (nd 18 <|
  .ret (.bool false) []))
      (nd 9 <|
  .stop (LVersions_10 r0 r2.fst r2.snd a0.f2 ((↑a0.f2.length : Int)) 0 a0 a1 a2 a3 [] [] [])))   : Tr SV) := by kernel_rfl
theorem LVersions_10_eq (x0 : Bool) (x1 : Int) (x2 : Bool) (x3 : List S62) (x4 : Int) (x5 : Int) (x6 : S31) (x7 : Int) (x8 : Int) (x9 : Int) (x10 : List S57) (x11 : List S57) (x12 : List S62) : tree EV SV 4000 (.two (.two (.yes (.yes (.two (.yes (.yes (.yes (.yes (.yes (.yes (.yes (.yes (.yes (.yes (.two (.yes (.yes (.yes (.yes (.yes (.yes (.yes (.yes (.yes (.two (.yes (.yes (.yes (.yes .any)))) (.no (.no (.yes (.yes (.no .any))))))))))))))) (.no (.no (.no (.no (.no (.no (.no (.no (.no (.no (.yes (.yes .any))))))))))))))))))))))) (.no (.no (.no (.no (.no (.no (.no (.no (.yes (.yes (.no (.no (.no (.no (.no (.no (.no (.no (.no (.no (.no (.yes (.yes .any)))))))))))))))))))))))))) (.no (.no (.no (.no (.no (.no .any))))))) (.two (.yes (.yes (.two (.yes (.yes (.two (.yes (.yes (.two (.yes (.yes (.yes (.yes (.yes (.yes (.two (.yes (.yes (.yes (.yes (.yes (.yes (.yes (.yes (.yes (.yes (.yes (.yes .any)))))))))))) (.no (.no (.no (.no (.no (.no (.no (.no (.no (.no (.yes (.yes .any))))))))))))))))))) (.no (.no (.no (.no (.yes (.yes (.no (.no (.no (.no (.no (.no (.no (.no (.no (.no (.no (.yes (.yes .any)))))))))))))))))))))) (.no (.no (.no (.no (.no (.yes .any))))))))) (.no (.no (.no .any)))))) (.no (.no (.no (.no (.no (.no .any)))))))) (LVersions_10 x0 x1 x2 x3 x4 x5 x6 x7 x8 x9 x10 x11 x12) =
  (.br (decide (x5 < x4))
    (.need (decide (0 ≤ x5) && decide (x5 < (↑x3.length : Int))) <|
    nd 3 <|
  .call 33 [.agg (encT .n62 (x3.getD x5.toNat d62)), .ptr 0 0, .ptr 1 0, .ptr 2 0] [.box 3 [.int .i64 x7], .box 3 [.int .i64 x8], .box 3 [.int .i64 x9]] fun (r0 : Bool × Int × Int × Int) =>
    .br (r0.fst)
      (nd 2 <|
  .br (!!x2)
        (nd 7 <|
  .need (decide (0 ≤ x1) && decide (x1 < (↑x6.f2.length : Int))) <|
        nd 5 <|
  .br (!decide ((x6.f2.getD x1.toNat d62).f5 < (x3.getD x5.toNat d62).f5))
          (nd 7 <|
  .need (decide (0 ≤ x1) && decide (x1 < (↑x6.f2.length : Int))) <|
          nd 4 <|
  .br ((x3.getD x5.toNat d62).f5 == (x6.f2.getD x1.toNat d62).f5)
            (nd 4 <|
  .br (decide (x1 < x5))
              (.ret (.bool false) [])
              (nd 2 <|
  .br (decide ((x3.getD x5.toNat d62).f5 ≤ r0.snd.snd.snd))
                (nd 2 <|
  .need (decide ((x12.length + [et62 (x3.getD x5.toNat d62)].length) * 184 ≤ 140737488355328)) <|
                nd 1 <|
  .stop (LVersions_10 x0 x1 x2 x3 x4 (IntKind.i64.wrap (x5 + 1)) x6 r0.snd.fst r0.snd.snd.fst r0.snd.snd.snd x10 x11 (x12 ++ [et62 (x3.getD x5.toNat d62)])))
                (.stop (LVersions_10 x0 x1 x2 x3 x4 (IntKind.i64.wrap (x5 + 1)) x6 r0.snd.fst r0.snd.snd.fst r0.snd.snd.snd x10 x11 x12))))
            (nd 8 <|
  .br (decide ((x3.getD x5.toNat d62).f5 ≤ r0.snd.snd.snd))
              (nd 2 <|
  .need (decide ((x12.length + [et62 (x3.getD x5.toNat d62)].length) * 184 ≤ 140737488355328)) <|
              nd 1 <|
  .stop (LVersions_10 x0 x1 x2 x3 x4 (IntKind.i64.wrap (x5 + 1)) x6 r0.snd.fst r0.snd.snd.fst r0.snd.snd.snd x10 x11 (x12 ++ [et62 (x3.getD x5.toNat d62)])))
              (.stop (LVersions_10 x0 x1 x2 x3 x4 (IntKind.i64.wrap (x5 + 1)) x6 r0.snd.fst r0.snd.snd.fst r0.snd.snd.snd x10 x11 x12))))
          (nd 13 <|
  .ret (.bool false) []))
        (nd 25 <|
  .ret (.bool false) []))
      (nd 9 <|
  .br (decide ((x3.getD x5.toNat d62).f5 ≤ r0.snd.snd.snd))
        (nd 2 <|
  .need (decide ((x12.length + [et62 (x3.getD x5.toNat d62)].length) * 184 ≤ 140737488355328)) <|
        nd 1 <|
  .stop (LVersions_10 x0 x1 x2 x3 x4 (IntKind.i64.wrap (x5 + 1)) x6 r0.snd.fst r0.snd.snd.fst r0.snd.snd.snd x10 x11 (x12 ++ [et62 (x3.getD x5.toNat d62)])))
        (.stop (LVersions_10 x0 x1 x2 x3 x4 (IntKind.i64.wrap (x5 + 1)) x6 r0.snd.fst r0.snd.snd.fst r0.snd.snd.snd x10 x11 x12))))
    (nd 4 <|
  .call 16 [.agg [.sl .n57 x10 .no, .sl .n57 x11 .no, .sl .n62 x12 .no], .int .i64 x7, .int .i64 x8, .int .i64 x9] [] fun (r0 : Int × Bool) =>
    .br (x0)
      (nd 2 <|
  .br (r0.snd == x2)
        (nd 2 <|
  .br (!!x2)
          (nd 2 <|
  .br (decide (0 ≤ r0.fst))
            (nd 7 <|
  .br (decide (r0.fst < (↑x12.length : Int)))
              (nd 4 <|
  .need (decide (0 ≤ r0.fst) && decide (r0.fst < (↑x12.length : Int))) <|
              nd 6 <|
  .need (decide (0 ≤ x1) && decide (x1 < (↑x6.f2.length : Int))) <|
              nd 2 <|
  .call 34 [.agg (encT .n62 (x12.getD r0.fst.toNat d62)), .agg (encT .n62 (x6.f2.getD x1.toNat d62))] [] fun (r1 : Bool) =>
              nd 2 <|
  .ret (.bool r1) [])
              (nd 13 <|
  .ret (.bool false) []))
            (nd 21 <|
  .ret (.bool false) []))
          (nd 7 <|
  .ret (.bool true) []))
        (nd 4 <|
  .ret (.bool false) []))
      (nd 8 <|
  .ret (.bool false) []))   : Tr SV) := by kernel_rfl
end Go.Proofs.YtnenfgpjedddoaaGreat.AI
