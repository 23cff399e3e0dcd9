/- Decision trees of functions: written by a program of mine (aigen.py), proved by the kernel's own computation. -/
import Derived.Test.YtnenfgpjedddoaaGreatAISay
import Derived.Test.YtnenfgpjedddoaaGreatAITc
set_option maxRecDepth 100000
set_option linter.unusedVariables false
namespace Go.Proofs.YtnenfgpjedddoaaGreat.AI
open Go
def sayW : SayR := ⟨List (Int × Bool), fun r => (.tup [], [.box 89 [.map 1], .map .n3 .n4 r])⟩
def sayWB : SayR := ⟨(Bool × List (Int × Bool)), fun r => (.bool r.1, [.box 89 [.map 1], .map .n3 .n4 r.2])⟩
def sayWI : SayR := ⟨(Int × List (Int × Bool)), fun r => (.int .i64 r.1, [.box 89 [.map 1], .map .n3 .n4 r.2])⟩
def SVg : Say T := mkSay (sayOver 99 sayW (sayOver 100 sayW (sayOver 52 sayWB (sayOver 101 sayWI (sayOver 53 sayWB (sayOver 39 ⟨(S60 × Int), fun r => (.agg (encT .n60 r.1), [.box 73 [.int .u16 r.2]])⟩ (sayOver 38 ⟨(Int × Int), fun r => (.int .i64 r.1, [.box 73 [.int .u16 r.2]])⟩ sayT)))))))
noncomputable def CNeeds0_0 (a0 : S31) (a1 : Int) : Cfg T := entryC EV 51 [.agg (encT .n31 a0), .int .i64 a1] []
noncomputable def CNeeds0_4 (x0 : Int) (x1 : List Int) (x2 : Int) (x3 : Int) (x4 : S31) (x5 : S62) (x6 : List (T K.n3 × T K.n4)) : Cfg T := atCut EV 51 4 0 [(1, some (.int .i64 x0)), (2, some (.ptr 0 0)), (5, some (.ptr 1 0)), (6, some (.ptr 2 0)), (21, some (.sl .n3 x1 .no)), (22, some (.int .i64 x2)), (23, some (.int .i64 x3))] [.box 31 (encT .n31 x4), .box 62 (encT .n62 x5), .box 89 [.map 3], .map .n3 .n4 x6]
theorem CNeeds0_0_eq (a0 : S31) (a1 : Int) : tree EV SVg 4000 .any (CNeeds0_0 a0 a1) =
  (nd 2 <|
  .need (decide (0 ≤ a1) && decide (a1 < (↑a0.f2.length : Int))) <|
  nd 6 <|
  .stop (CNeeds0_4 a1 ((a0.f2.getD a1.toNat d62).f7) ((↑(a0.f2.getD a1.toNat d62).f7.length : Int)) 0 a0 (a0.f2.getD a1.toNat d62) [])   : Tr SVg) := by kernel_rfl
noncomputable def CNeeds0_9 (x0 : Int) (x1 : List S60) (x2 : Int) (x3 : Int) (x4 : S31) (x5 : List (T K.n3 × T K.n4)) : Cfg T := atCut EV 51 9 0 [(1, some (.int .i64 x0)), (2, some (.ptr 0 0)), (6, some (.ptr 1 0)), (36, some (.sl .n60 x1 (.tok 2 0))), (37, some (.int .i64 x2)), (38, some (.int .i64 x3))] [.box 31 (encT .n31 x4), .box 89 [.map 3], .vec .n60 0, .map .n3 .n4 x5]
theorem CNeeds0_4_eq (x0 : Int) (x1 : List Int) (x2 : Int) (x3 : Int) (x4 : S31) (x5 : S62) (x6 : List (T K.n3 × T K.n4)) : tree EV SVg 4000 .any (CNeeds0_4 x0 x1 x2 x3 x4 x5 x6) =
  (.br (decide (x3 < x2))
    (.need (decide (0 ≤ x3) && decide (x3 < (↑x1.length : Int))) <|
    nd 2 <|
  .stop (CNeeds0_4 x0 x1 x2 (IntKind.i64.wrap (x3 + 1)) x4 x5 (updT K.n3 K.n4 EV x6 (x1.getD x3.toNat 0) true)))
    (nd 1 <|
  .call 98 [.sl .n60 x5.f6 .no] [] fun (r0 : List S60) =>
    nd 1 <|
  .need (decide ((r0.length + [et60 x5.f8].length) * 88 ≤ 140737488355328)) <|
    .stop (CNeeds0_9 x0 (r0 ++ [et60 x5.f8]) ((↑(r0 ++ [et60 x5.f8]).length : Int)) 0 x4 x6))   : Tr SVg) := by kernel_rfl
noncomputable def CNeeds0_15 (x0 : Int) (x1 : List Int) (x2 : List S62) (x3 : Int) (x4 : Int) (x5 : S31) (x6 : List (T K.n3 × T K.n4)) : Cfg T := atCut EV 51 15 0 [(1, some (.int .i64 x0)), (2, some (.ptr 0 0)), (6, some (.ptr 1 0)), (11, some (.sl .n3 x1 (.tok 2 0))), (47, some (.sl .n62 x2 .no)), (48, some (.int .i64 x3)), (49, some (.int .i64 x4))] [.box 31 (encT .n31 x5), .box 89 [.map 3], .vec .n3 0, .map .n3 .n4 x6]
theorem CNeeds0_9_eq (x0 : Int) (x1 : List S60) (x2 : Int) (x3 : Int) (x4 : S31) (x5 : List (T K.n3 × T K.n4)) : tree EV SVg 4000 .any (CNeeds0_9 x0 x1 x2 x3 x4 x5) =
  (.br (decide (x3 < x2))
    (.need (decide (0 ≤ x3) && decide (x3 < (↑x1.length : Int))) <|
    nd 3 <|
  .call 99 [.agg (encT .n60 (x1.getD x3.toNat d60)), .fn 100 [] [.ptr 0 0]] [.box 89 [.map 1], .map .n3 .n4 x5] fun (r0 : List (Int × Bool)) =>
    .stop (CNeeds0_9 x0 x1 x2 (IntKind.i64.wrap (x3 + 1)) x4 r0))
    (nd 1 <|
  .stop (CNeeds0_15 x0 [] x4.f2 ((↑x4.f2.length : Int)) 0 x4 x5))   : Tr SVg) := by kernel_rfl
theorem CNeeds0_15_eq (x0 : Int) (x1 : List Int) (x2 : List S62) (x3 : Int) (x4 : Int) (x5 : S31) (x6 : List (T K.n3 × T K.n4)) : tree EV SVg 4000 (.two (.two (.yes (.yes (.yes .any))) (.no (.no (.no (.yes .any))))) .any) (CNeeds0_15 x0 x1 x2 x3 x4 x5 x6) =
  (.br (decide (x4 < x3))
    (.need (decide (0 ≤ x4) && decide (x4 < (↑x2.length : Int))) <|
    nd 5 <|
  .br (!(lookupT K.n3 K.n4 EV x6 (x2.getD x4.toNat d62).f0).getD false)
      (nd 4 <|
  .call 24 [.agg (encT .n31 x5), .int .i64 x4, .int .i64 x0] [] fun (r0 : Bool) =>
      .br (r0)
        (.need (decide ((x1.length + [x4].length) * 8 ≤ 140737488355328)) <|
        .stop (CNeeds0_15 x0 (x1 ++ [x4]) x2 x3 (IntKind.i64.wrap (x4 + 1)) x5 x6))
        (.stop (CNeeds0_15 x0 x1 x2 x3 (IntKind.i64.wrap (x4 + 1)) x5 x6)))
      (nd 5 <|
  .need (decide ((x1.length + [x4].length) * 8 ≤ 140737488355328)) <|
      .stop (CNeeds0_15 x0 (x1 ++ [x4]) x2 x3 (IntKind.i64.wrap (x4 + 1)) x5 x6)))
    (.ret (.sl .n3 x1 .no) [])   : Tr SVg) := by kernel_rfl
noncomputable def CNumbers_0 (e : S60) (m : List (Int × Bool)) : Cfg T := entryC EV 99 [.agg (encT .n60 e), .fn 100 [] [.ptr 0 0]] [.box 89 [.map 1], .map .n3 .n4 m]
noncomputable def CNumbers_4 (x0 : List S60) (x1 : Int) (x2 : Int) (x3 : List (Int × Bool)) : Cfg T := atCut EV 99 4 2 [(1, some (.fn 100 [] [.ptr 0 0])), (14, some (.sl .n60 x0 .no)), (15, some (.int .i64 x1)), (16, some (.int .i64 x2))] [.box 89 [.map 1], .map .n3 .n4 x3]
theorem CNumbers_0_eq (e : S60) (m : List (Int × Bool)) : tree EV SVg 4000 .any (CNumbers_0 e m) =
  (nd 2 <|
  .br (e.f0 == 3)
    (nd 1 <|
  .call 100 [.int .i64 e.f1, .ptr 0 0] [.box 89 [.map 1], .map .n3 .n4 m] fun (r0 : List (Int × Bool)) =>
    nd 1 <|
  .stop (CNumbers_4 e.f4 ((↑e.f4.length : Int)) 0 r0))
    (nd 1 <|
  .stop (CNumbers_4 e.f4 ((↑e.f4.length : Int)) 0 m))   : Tr SVg) := by kernel_rfl
theorem CNumbers_4_eq (x0 : List S60) (x1 : Int) (x2 : Int) (x3 : List (Int × Bool)) : tree EV SVg 4000 .any (CNumbers_4 x0 x1 x2 x3) =
  (.br (decide (x2 < x1))
    (.need (decide (0 ≤ x2) && decide (x2 < (↑x0.length : Int))) <|
    nd 3 <|
  .call 99 [.agg (encT .n60 (x0.getD x2.toNat d60)), .fn 100 [] [.ptr 0 0]] [.box 89 [.map 1], .map .n3 .n4 x3] fun (r0 : List (Int × Bool)) =>
    .stop (CNumbers_4 x0 x1 (IntKind.i64.wrap (x2 + 1)) r0))
    (.ret (.tup []) [.box 89 [.map 1], .map .n3 .n4 x3])   : Tr SVg) := by kernel_rfl
noncomputable def CNeeds1_0 (n : Int) (m : List (Int × Bool)) : Cfg T := entryC EV 100 [.int .i64 n, .ptr 0 0] [.box 89 [.map 1], .map .n3 .n4 m]
theorem CNeeds1_0_eq (n : Int) (m : List (Int × Bool)) : tree EV SVg 4000 .any (CNeeds1_0 n m) =
  (nd 2 <|
  .ret (.tup []) [.box 89 [.map 1], .map .n3 .n4 (updT K.n3 K.n4 EV m n true)]   : Tr SVg) := by kernel_rfl
noncomputable def CNeeds_0 (a0 : S31) (a1 : Int) : Cfg T := entryC EV 27 [.agg (encT .n31 a0), .int .i64 a1] []
theorem CNeeds_0_eq (a0 : S31) (a1 : Int) : tree EV SVg 4000 (.two (.yes (.yes (.yes (.yes (.two (.yes (.yes .any)) (.no (.no (.yes .any)))))))) (.no (.no (.no (.no (.no (.no (.no (.yes .any))))))))) (CNeeds_0 a0 a1) =
  (nd 1 <|
  .br (!decide (a1 < 0))
    (nd 5 <|
  .br (!decide ((↑a0.f2.length : Int) ≤ a1))
      (nd 2 <|
  .call 22 [.agg (encT .n31 a0)] [] fun (r0 : Bool) =>
      nd 1 <|
  .br (!r0)
        (.ret (.sl .n3 [] .no) [])
        (nd 1 <|
  .call 51 [.agg (encT .n31 a0), .int .i64 a1] [] fun (r1 : List Int) =>
        .ret (.sl .n3 r1 .no) []))
      (nd 4 <|
  .ret (.sl .n3 [] .no) []))
    (nd 10 <|
  .ret (.sl .n3 [] .no) [])   : Tr SVg) := by kernel_rfl
noncomputable def CFi_0 (l : List Int) (m : List (Int × Bool)) : Cfg T := entryC EV 52 [.sl .n3 l .no, .fn 53 [] [.ptr 0 0]] [.box 89 [.map 1], .map .n3 .n4 m]
theorem CFi_0_eq (l : List Int) (m : List (Int × Bool)) : tree EV SVg 4000 .any (CFi_0 l m) =
  (.call 101 [.sl .n3 l .no, .fn 53 [] [.ptr 0 0]] [.box 89 [.map 1], .map .n3 .n4 m] fun (r0 : Int × List (Int × Bool)) =>
  .ret (.bool (decide (0 ≤ r0.fst))) [.box 89 [.map 1], .map .n3 .n4 r0.snd]   : Tr SVg) := by kernel_rfl
noncomputable def IFi_0 (l : List Int) (m : List (Int × Bool)) : Cfg T := entryC EV 101 [.sl .n3 l .no, .fn 53 [] [.ptr 0 0]] [.box 89 [.map 1], .map .n3 .n4 m]
noncomputable def IFi_2 (x0 : List Int) (x1 : Int) (x2 : Int) (x3 : List (Int × Bool)) : Cfg T := atCut EV 101 2 2 [(0, some (.sl .n3 x0 .no)), (1, some (.fn 53 [] [.ptr 0 0])), (7, some (.int .i64 x1)), (8, some (.int .i64 x2))] [.box 89 [.map 1], .map .n3 .n4 x3]
theorem IFi_0_eq (l : List Int) (m : List (Int × Bool)) : tree EV SVg 4000 .any (IFi_0 l m) =
  (.stop (IFi_2 l ((↑l.length : Int)) 0 m)   : Tr SVg) := by kernel_rfl
theorem IFi_2_eq (x0 : List Int) (x1 : Int) (x2 : Int) (x3 : List (Int × Bool)) : tree EV SVg 4000 .any (IFi_2 x0 x1 x2 x3) =
  (.br (decide (x2 < x1))
    (.need (decide (0 ≤ x2) && decide (x2 < (↑x0.length : Int))) <|
    .call 53 [.int .i64 (x0.getD x2.toNat 0), .ptr 0 0] [.box 89 [.map 1], .map .n3 .n4 x3] fun (r0 : Bool × List (Int × Bool)) =>
    .br (r0.fst)
      (.ret (.int .i64 x2) [.box 89 [.map 1], .map .n3 .n4 r0.snd])
      (.stop (IFi_2 x0 x1 (IntKind.i64.wrap (x2 + 1)) r0.snd)))
    (.ret (.int .i64 (-1)) [.box 89 [.map 1], .map .n3 .n4 x3])   : Tr SVg) := by kernel_rfl
noncomputable def COrder1_0 (n : Int) (m : List (Int × Bool)) : Cfg T := entryC EV 53 [.int .i64 n, .ptr 0 0] [.box 89 [.map 1], .map .n3 .n4 m]
theorem COrder1_0_eq (n : Int) (m : List (Int × Bool)) : tree EV SVg 4000 .any (COrder1_0 n m) =
  (nd 2 <|
  .ret (.bool (!(lookupT K.n3 K.n4 EV m n).getD false)) [.box 89 [.map 1], .map .n3 .n4 m]   : Tr SVg) := by kernel_rfl
noncomputable def COrder_0 (a0 : S31) : Cfg T := entryC EV 18 [.agg (encT .n31 a0)] []
noncomputable def COrder_5 (x0 : Int) (x1 : Int) (x2 : S31) (x3 : List (List Int)) : Cfg T := atCut EV 18 5 0 [(1, some (.ptr 0 0)), (4, some (.asl 1)), (17, some (.int .i64 x0)), (18, some (.int .i64 x1))] [.box 31 (encT .n31 x2), .arr .n40 x3]
theorem COrder_0_eq (a0 : S31) : tree EV SVg 4000 .any (COrder_0 a0) =
  (nd 2 <|
  .call 22 [.agg (encT .n31 a0)] [] fun (r0 : Bool) =>
  .br (!r0)
    (.ret (.tup [.sl .n3 [] .no, .bool true]) [])
    (nd 1 <|
  .need (decide ((↑a0.f2.length : Int) = (↑a0.f2.length : Int)) && (decide (0 ≤ (↑a0.f2.length : Int)) && decide ((↑a0.f2.length : Int) * (↑24 : Int) ≤ 140737488355328) && decide ((↑a0.f2.length : Int) ≤ 9223372036854775807))) <|
    nd 1 <|
  .stop (COrder_5 ((↑(List.replicate (↑a0.f2.length : Int).toNat ([] : List Int)).length : Int)) 0 a0 (List.replicate (↑a0.f2.length : Int).toNat ([] : List Int))))   : Tr SVg) := by kernel_rfl
noncomputable def COrder_11 (x0 : List Int) (x1 : List (List Int)) (x2 : List (T K.n3 × T K.n4)) : Cfg T := atCut EV 18 11 0 [(4, some (.asl 0)), (6, some (.ptr 1 0)), (7, some (.sl .n3 x0 (.tok 2 0)))] [.arr .n40 x1, .box 89 [.map 3], .vec .n3 0, .map .n3 .n4 x2]
theorem COrder_5_eq (x0 : Int) (x1 : Int) (x2 : S31) (x3 : List (List Int)) : tree EV SVg 4000 .any (COrder_5 x0 x1 x2 x3) =
  (.br (decide (x1 < x0))
    (nd 1 <|
  .call 51 [.agg (encT .n31 x2), .int .i64 x1] [] fun (r0 : List Int) =>
    .need (decide (0 ≤ x1) && decide (x1 < (↑x3.length : Int))) <|
    nd 1 <|
  .stop (COrder_5 x0 (IntKind.i64.wrap (x1 + 1)) x2 (x3.set x1.toNat r0)))
    (nd 3 <|
  .stop (COrder_11 [] x3 []))   : Tr SVg) := by kernel_rfl
noncomputable def COrder_13 (x0 : List Int) (x1 : Int) (x2 : List (List Int)) (x3 : List (T K.n3 × T K.n4)) : Cfg T := atCut EV 18 13 0 [(4, some (.asl 0)), (6, some (.ptr 1 0)), (7, some (.sl .n3 x0 (.tok 2 0))), (8, some (.int .i64 x1))] [.arr .n40 x2, .box 89 [.map 3], .vec .n3 0, .map .n3 .n4 x3]
theorem COrder_11_eq (x0 : List Int) (x1 : List (List Int)) (x2 : List (T K.n3 × T K.n4)) : tree EV SVg 4000 .any (COrder_11 x0 x1 x2) =
  (nd 1 <|
  .br (decide ((↑x0.length : Int) < (↑x1.length : Int)))
    (.stop (COrder_13 x0 0 x1 x2))
    (.ret (.tup [.sl .n3 x0 .no, .bool true]) [])   : Tr SVg) := by kernel_rfl
theorem COrder_13_eq (x0 : List Int) (x1 : Int) (x2 : List (List Int)) (x3 : List (T K.n3 × T K.n4)) : tree EV SVg 4000 (.two (.yes (.yes (.yes (.two (.yes (.yes (.yes (.yes (.yes (.yes .any)))))) (.no (.no (.no (.no (.no (.yes (.yes .any))))))))))) (.no (.no (.no (.no (.no .any)))))) (COrder_13 x0 x1 x2 x3) =
  (nd 1 <|
  .br (decide (x1 < (↑x2.length : Int)))
    (nd 5 <|
  .br (!(lookupT K.n3 K.n4 EV x3 x1).getD false)
      (nd 2 <|
  .need (decide (0 ≤ x1) && decide (x1 < (↑x2.length : Int))) <|
      nd 4 <|
  .call 52 [.sl .n3 (x2.getD x1.toNat []) .no, .fn 53 [] [.ptr 0 0]] [.box 89 [.map 1], .map .n3 .n4 x3] fun (r0 : Bool × List (Int × Bool)) =>
      nd 1 <|
  .br (r0.fst)
        (.stop (COrder_13 x0 (IntKind.i64.wrap (x1 + 1)) x2 r0.snd))
        (nd 1 <|
  .br (x1 == (↑x2.length : Int))
          (.ret (.tup [.sl .n3 [] .no, .bool false]) [])
          (nd 2 <|
  .need (decide ((x0.length + [x1].length) * 8 ≤ 140737488355328)) <|
          .stop (COrder_11 (x0 ++ [x1]) x2 (updT K.n3 K.n4 EV r0.snd x1 true)))))
      (nd 8 <|
  .stop (COrder_13 x0 (IntKind.i64.wrap (x1 + 1)) x2 x3)))
    (nd 7 <|
  .br (x1 == (↑x2.length : Int))
      (.ret (.tup [.sl .n3 [] .no, .bool false]) [])
      (nd 2 <|
  .need (decide ((x0.length + [x1].length) * 8 ≤ 140737488355328)) <|
      .stop (COrder_11 (x0 ++ [x1]) x2 (updT K.n3 K.n4 EV x3 x1 true))))   : Tr SVg) := by kernel_rfl
noncomputable def CClone_0 (a0 : List S60) : Cfg T := entryC EV 98 [.sl .n60 a0 .no] []
theorem CClone_0_eq (a0 : List S60) : tree EV SV 4000 (.two (.yes .any) (.no .any)) (CClone_0 a0) =
  (.fork (a0.isEmpty)
    (nd 1 <|
  .ret (.sl .n60 [] (.tok 0 0)) [.vec .n60 0])
    (nd 1 <|
  .need (decide ((([] : List S60).length + a0.length) * 88 ≤ 140737488355328)) <|
    .ret (.sl .n60 (([] : List S60) ++ a0) (.tok 0 0)) [.vec .n60 0])   : Tr SV) := by kernel_rfl
noncomputable def LRenum_0 (e : S60) (b : Int) : Cfg T := entryC EV 39 [.agg (encT .n60 e), .fn 38 [] [.ptr 0 0]] [.box 73 [.int .u16 b]]
noncomputable def LRenum_6 (x0 : List S60) (x1 : Int) (x2 : Int) (x3 : Int) (x4 : Int) (x5 : Int) (x6 : List UInt8) (x7 : Int) (x8 : List S158) (x9 : List S60) (x10 : Int) (x11 : Int) (x12 : List UInt8) (x13 : S24) (x14 : List S60) : Cfg T := atCut EV 39 6 1 [(1, some (.fn 38 [] [.ptr 0 0])), (4, some (.ptr 1 0)), (5, some (.ptr 2 0)), (19, some (.sl .n60 x0 .no)), (20, some (.int .i64 x1)), (21, some (.int .i64 x2))] [.box 73 [.int .u16 x3], .box 60 [.int .i64 x4, .int .i64 x5, .str x6, .int .i64 x7, .sl .n158 x8 (.tok 3 0), .sl .n60 x9 (.tok 4 0)], .box 60 ([.int .i64 x10, .int .i64 x11, .str x12] ++ encT .n24 x13 ++ [.sl .n60 x14 (.tok 5 0)]), .vec .n158 0, .vec .n60 0, .vec .n60 0]
theorem LRenum_0_eq (e : S60) (b : Int) : tree EV SVg 4000 .any (LRenum_0 e b) =
  (nd 6 <|
  .br (e.f0 == 3)
    (nd 1 <|
  .call 38 [.int .i64 e.f1, .ptr 0 0] [.box 73 [.int .u16 b]] fun (r0 : Int × Int) =>
    nd 3 <|
  .stop (LRenum_6 e.f4 ((↑e.f4.length : Int)) 0 r0.snd 0 0 [] 0 [] [] e.f0 r0.fst e.f2 e.f3 []))
    (nd 2 <|
  .stop (LRenum_6 e.f4 ((↑e.f4.length : Int)) 0 b 0 0 [] 0 [] [] e.f0 e.f1 e.f2 e.f3 []))   : Tr SVg) := by kernel_rfl
theorem LRenum_6_eq (x0 : List S60) (x1 : Int) (x2 : Int) (x3 : Int) (x4 : Int) (x5 : Int) (x6 : List UInt8) (x7 : Int) (x8 : List S158) (x9 : List S60) (x10 : Int) (x11 : Int) (x12 : List UInt8) (x13 : S24) (x14 : List S60) : tree EV SVg 4000 .any (LRenum_6 x0 x1 x2 x3 x4 x5 x6 x7 x8 x9 x10 x11 x12 x13 x14) =
  (.br (decide (x2 < x1))
    (.need (decide (0 ≤ x2) && decide (x2 < (↑x0.length : Int))) <|
    nd 4 <|
  .call 39 [.agg (encT .n60 (x0.getD x2.toNat d60)), .fn 38 [] [.ptr 0 0]] [.box 73 [.int .u16 x3]] fun (r0 : S60 × Int) =>
    .need (decide ((x14.length + [et60 r0.fst].length) * 88 ≤ 140737488355328)) <|
    nd 1 <|
  .stop (LRenum_6 x0 x1 (IntKind.i64.wrap (x2 + 1)) r0.snd x4 x5 x6 x7 x8 x9 x10 x11 x12 x13 (x14 ++ [et60 r0.fst])))
    (nd 2 <|
  .ret (.agg ([.int .i64 x10, .int .i64 x11, .str x12] ++ encT .n24 x13 ++ [.sl .n60 x14 .no])) [.box 73 [.int .u16 x3]])   : Tr SVg) := by kernel_rfl
noncomputable def LNum1_0 (n : Int) (b : Int) : Cfg T := entryC EV 38 [.int .i64 n, .ptr 0 0] [.box 73 [.int .u16 b]]
theorem LNum1_0_eq (n : Int) (b : Int) : tree EV SVg 4000 .any (LNum1_0 n b) =
  (nd 2 <|
  .ret (.int .i64 (IntKind.i64.wrap ((IntKind.i64.wrap (n + IntKind.i64.wrap b)).tmod 1000000 + 1))) [.box 73 [.int .u16 b]]   : Tr SVg) := by kernel_rfl
noncomputable def LNumbers_0 (a0 : S31) (a1 : Int) : Cfg T := entryC EV 10 [.agg (encT .n31 a0), .int .u16 a1] []
noncomputable def LNumbers_8 (x0 : Bool) (x1 : List S62) (x2 : Int) (x3 : Int) (x4 : S31) (x5 : Int) (x6 : List S57) (x7 : List S57) (x8 : List S62) : Cfg T := atCut EV 10 8 0 [(2, some (.ptr 0 0)), (5, some (.bool x0)), (6, some (.fn 38 [] [.ptr 1 0])), (7, some (.ptr 2 0)), (35, some (.sl .n62 x1 .no)), (36, some (.int .i64 x2)), (37, some (.int .i64 x3))] [.box 31 (encT .n31 x4), .box 73 [.int .u16 x5], .box 31 [.sl .n57 x6 .no, .sl .n57 x7 .no, .sl .n62 x8 (.tok 3 0)], .vec .n62 0]
theorem LNumbers_0_eq (a0 : S31) (a1 : Int) : tree EV SVg 4000 (.two (.yes (.yes .any)) (.no (.no (.yes .any)))) (LNumbers_0 a0 a1) =
  (nd 2 <|
  .call 11 [] [] fun (r0 : Bool) =>
  nd 1 <|
  .call 13 [.agg (encT .n31 a0)] [] fun (r1 : Bool) =>
  .br (!!r1)
    (nd 2 <|
  .call 23 [.agg (encT .n31 a0)] [] fun (r2 : Bool) =>
    nd 1 <|
  .br (!r2)
      (.ret (.bool r0) [])
      (nd 5 <|
  .stop (LNumbers_8 r0 a0.f2 ((↑a0.f2.length : Int)) 0 a0 a1 a0.f0 a0.f1 [])))
    (nd 4 <|
  .ret (.bool r0) [])   : Tr SVg) := by kernel_rfl
noncomputable def LNumbers_13 (x0 : Bool) (x1 : List S62) (x2 : Int) (x3 : Int) (x4 : List S60) (x5 : Int) (x6 : Int) (x7 : S31) (x8 : Int) (x9 : List S57) (x10 : List S57) (x11 : List S62) (x12 : S62) (x13 : Int) (x14 : Int) (x15 : Int) (x16 : Int) (x17 : Int) (x18 : Int) (x19 : List S60) (x20 : List Int) (x21 : S60) : Cfg T := atCut EV 10 13 0 [(2, some (.ptr 0 0)), (5, some (.bool x0)), (6, some (.fn 38 [] [.ptr 1 0])), (7, some (.ptr 2 0)), (9, some (.ptr 3 0)), (10, some (.ptr 4 0)), (35, some (.sl .n62 x1 .no)), (36, some (.int .i64 x2)), (37, some (.int .i64 x3)), (55, some (.sl .n60 x4 .no)), (56, some (.int .i64 x5)), (57, some (.int .i64 x6))] [.box 31 (encT .n31 x7), .box 73 [.int .u16 x8], .box 31 [.sl .n57 x9 .no, .sl .n57 x10 .no, .sl .n62 x11 (.tok 5 0)], .box 62 (encT .n62 x12), .box 62 ([.int .i64 x13, .int .i64 x14, .int .i64 x15, .int .i64 x16, .int .i64 x17, .int .i64 x18, .sl .n60 x19 (.tok 6 0), .sl .n3 x20 (.tok 7 0)] ++ encT .n60 x21), .vec .n62 0, .vec .n60 0, .vec .n3 0]
noncomputable def LNumbers_27 (x0 : Bool) (x1 : Int) (x2 : Int) (x3 : S31) (x4 : List S57) (x5 : List S57) (x6 : List S62) : Cfg T := atCut EV 10 27 0 [(2, some (.ptr 0 0)), (5, some (.bool x0)), (7, some (.ptr 1 0)), (98, some (.int .i64 x1)), (99, some (.int .i64 x2))] [.box 31 (encT .n31 x3), .box 31 [.sl .n57 x4 .no, .sl .n57 x5 .no, .sl .n62 x6 (.tok 2 0)], .vec .n62 0]
theorem LNumbers_8_eq (x0 : Bool) (x1 : List S62) (x2 : Int) (x3 : Int) (x4 : S31) (x5 : Int) (x6 : List S57) (x7 : List S57) (x8 : List S62) : tree EV SVg 4000 .any (LNumbers_8 x0 x1 x2 x3 x4 x5 x6 x7 x8) =
  (.br (decide (x3 < x2))
    (.need (decide (0 ≤ x3) && decide (x3 < (↑x1.length : Int))) <|
    nd 6 <|
  .call 38 [.int .i64 ((x1.getD x3.toNat d62).f0), .ptr 0 0] [.box 73 [.int .u16 x5]] fun (r0 : Int × Int) =>
    nd 1 <|
  .call 39 [.agg (encT .n60 ((x1.getD x3.toNat d62).f8)), .fn 38 [] [.ptr 0 0]] [.box 73 [.int .u16 r0.snd]] fun (r1 : S60 × Int) =>
    nd 5 <|
  .stop (LNumbers_13 x0 x1 x2 x3 ((x1.getD x3.toNat d62).f6) ((↑(x1.getD x3.toNat d62).f6.length : Int)) 0 x4 r1.snd x6 x7 x8 (x1.getD x3.toNat d62) r0.fst ((x1.getD x3.toNat d62).f1) ((x1.getD x3.toNat d62).f2) ((x1.getD x3.toNat d62).f3) ((x1.getD x3.toNat d62).f4) ((x1.getD x3.toNat d62).f5) [] [] r1.fst))
    (nd 1 <|
  .call 22 [.agg [.sl .n57 x6 .no, .sl .n57 x7 .no, .sl .n62 x8 .no]] [] fun (r0 : Bool) =>
    .br (!r0)
      (.ret (.bool false) [])
      (nd 1 <|
  .stop (LNumbers_27 x0 ((↑x4.f2.length : Int)) 0 x4 x6 x7 x8)))   : Tr SVg) := by kernel_rfl
noncomputable def LNumbers_18 (x0 : Bool) (x1 : List S62) (x2 : Int) (x3 : Int) (x4 : List Int) (x5 : Int) (x6 : Int) (x7 : S31) (x8 : Int) (x9 : List S57) (x10 : List S57) (x11 : List S62) (x12 : Int) (x13 : Int) (x14 : Int) (x15 : Int) (x16 : Int) (x17 : Int) (x18 : List S60) (x19 : List Int) (x20 : S60) : Cfg T := atCut EV 10 18 0 [(2, some (.ptr 0 0)), (5, some (.bool x0)), (6, some (.fn 38 [] [.ptr 1 0])), (7, some (.ptr 2 0)), (10, some (.ptr 3 0)), (35, some (.sl .n62 x1 .no)), (36, some (.int .i64 x2)), (37, some (.int .i64 x3)), (71, some (.sl .n3 x4 .no)), (72, some (.int .i64 x5)), (73, some (.int .i64 x6))] [.box 31 (encT .n31 x7), .box 73 [.int .u16 x8], .box 31 [.sl .n57 x9 .no, .sl .n57 x10 .no, .sl .n62 x11 (.tok 4 0)], .box 62 ([.int .i64 x12, .int .i64 x13, .int .i64 x14, .int .i64 x15, .int .i64 x16, .int .i64 x17, .sl .n60 x18 (.tok 5 0), .sl .n3 x19 (.tok 6 0)] ++ encT .n60 x20), .vec .n62 0, .vec .n60 0, .vec .n3 0]
theorem LNumbers_13_eq (x0 : Bool) (x1 : List S62) (x2 : Int) (x3 : Int) (x4 : List S60) (x5 : Int) (x6 : Int) (x7 : S31) (x8 : Int) (x9 : List S57) (x10 : List S57) (x11 : List S62) (x12 : S62) (x13 : Int) (x14 : Int) (x15 : Int) (x16 : Int) (x17 : Int) (x18 : Int) (x19 : List S60) (x20 : List Int) (x21 : S60) : tree EV SVg 4000 .any (LNumbers_13 x0 x1 x2 x3 x4 x5 x6 x7 x8 x9 x10 x11 x12 x13 x14 x15 x16 x17 x18 x19 x20 x21) =
  (.br (decide (x6 < x5))
    (.need (decide (0 ≤ x6) && decide (x6 < (↑x4.length : Int))) <|
    nd 4 <|
  .call 39 [.agg (encT .n60 (x4.getD x6.toNat d60)), .fn 38 [] [.ptr 0 0]] [.box 73 [.int .u16 x8]] fun (r0 : S60 × Int) =>
    .need (decide ((x19.length + [et60 r0.fst].length) * 88 ≤ 140737488355328)) <|
    nd 1 <|
  .stop (LNumbers_13 x0 x1 x2 x3 x4 x5 (IntKind.i64.wrap (x6 + 1)) x7 r0.snd x9 x10 x11 x12 x13 x14 x15 x16 x17 x18 (x19 ++ [et60 r0.fst]) x20 x21))
    (nd 1 <|
  .stop (LNumbers_18 x0 x1 x2 x3 x12.f7 ((↑x12.f7.length : Int)) 0 x7 x8 x9 x10 x11 x13 x14 x15 x16 x17 x18 x19 x20 x21))   : Tr SVg) := by kernel_rfl
noncomputable def LNumbers_32 (x0 : Bool) (x1 : Int) (x2 : Int) (x3 : Int) (x4 : Int) (x5 : Int) (x6 : S31) (x7 : List S57) (x8 : List S57) (x9 : List S62) : Cfg T := atCut EV 10 32 0 [(2, some (.ptr 0 0)), (5, some (.bool x0)), (7, some (.ptr 1 0)), (15, some (.int .i64 x1)), (98, some (.int .i64 x2)), (99, some (.int .i64 x3)), (112, some (.int .i64 x4)), (113, some (.int .i64 x5))] [.box 31 (encT .n31 x6), .box 31 [.sl .n57 x7 .no, .sl .n57 x8 .no, .sl .n62 x9 (.tok 2 0)], .vec .n62 0]
theorem LNumbers_27_eq (x0 : Bool) (x1 : Int) (x2 : Int) (x3 : S31) (x4 : List S57) (x5 : List S57) (x6 : List S62) : tree EV SVg 4000 (.two .any (.two (.yes (.yes (.two (.yes (.yes .any)) (.no (.no .any))))) (.no (.no (.no (.no (.no .any))))))) (LNumbers_27 x0 x1 x2 x3 x4 x5 x6) =
  (.br (decide (x2 < x1))
    (nd 1 <|
  .call 27 [.agg (encT .n31 x3), .int .i64 x2] [] fun (r0 : List Int) =>
    nd 1 <|
  .call 27 [.agg [.sl .n57 x4 .no, .sl .n57 x5 .no, .sl .n62 x6 .no], .int .i64 x2] [] fun (r1 : List Int) =>
    .call 26 [.sl .n3 r0 .no, .sl .n3 r1 .no] [] fun (r2 : Bool) =>
    .br (!r2)
      (.ret (.bool false) [])
      (nd 1 <|
  .stop (LNumbers_32 x0 x2 x1 x2 ((↑x3.f2.length : Int)) 0 x3 x4 x5 x6)))
    (nd 1 <|
  .call 18 [.agg (encT .n31 x3)] [] fun (r0 : List Int × Bool) =>
    nd 1 <|
  .call 18 [.agg [.sl .n57 x4 .no, .sl .n57 x5 .no, .sl .n62 x6 .no]] [] fun (r1 : List Int × Bool) =>
    .br (x0)
      (nd 2 <|
  .br (r0.snd == r1.snd)
        (nd 2 <|
  .call 26 [.sl .n3 r0.fst .no, .sl .n3 r1.fst .no] [] fun (r2 : Bool) =>
        .ret (.bool r2) [])
        (nd 3 <|
  .ret (.bool false) []))
      (nd 7 <|
  .ret (.bool false) []))   : Tr SVg) := by kernel_rfl
theorem LNumbers_18_eq (x0 : Bool) (x1 : List S62) (x2 : Int) (x3 : Int) (x4 : List Int) (x5 : Int) (x6 : Int) (x7 : S31) (x8 : Int) (x9 : List S57) (x10 : List S57) (x11 : List S62) (x12 : Int) (x13 : Int) (x14 : Int) (x15 : Int) (x16 : Int) (x17 : Int) (x18 : List S60) (x19 : List Int) (x20 : S60) : tree EV SVg 4000 .any (LNumbers_18 x0 x1 x2 x3 x4 x5 x6 x7 x8 x9 x10 x11 x12 x13 x14 x15 x16 x17 x18 x19 x20) =
  (.br (decide (x6 < x5))
    (.need (decide (0 ≤ x6) && decide (x6 < (↑x4.length : Int))) <|
    nd 1 <|
  .call 38 [.int .i64 (x4.getD x6.toNat 0), .ptr 0 0] [.box 73 [.int .u16 x8]] fun (r0 : Int × Int) =>
    .need (decide ((x19.length + [r0.fst].length) * 8 ≤ 140737488355328)) <|
    nd 1 <|
  .stop (LNumbers_18 x0 x1 x2 x3 x4 x5 (IntKind.i64.wrap (x6 + 1)) x7 r0.snd x9 x10 x11 x12 x13 x14 x15 x16 x17 x18 (x19 ++ [r0.fst]) x20))
    (nd 2 <|
  .need (decide ((x11.length + [{ f0 := x12, f1 := x13, f2 := x14, f3 := x15, f4 := x16, f5 := x17, f6 := x18, f7 := x19, f8 := et60 x20 : S62 }].length) * 184 ≤ 140737488355328)) <|
    nd 1 <|
  .stop (LNumbers_8 x0 x1 x2 (IntKind.i64.wrap (x3 + 1)) x7 x8 x9 x10 (x11 ++ [{ f0 := x12, f1 := x13, f2 := x14, f3 := x15, f4 := x16, f5 := x17, f6 := x18, f7 := x19, f8 := et60 x20 : S62 }])))   : Tr SVg) := by kernel_rfl
theorem LNumbers_32_eq (x0 : Bool) (x1 : Int) (x2 : Int) (x3 : Int) (x4 : Int) (x5 : Int) (x6 : S31) (x7 : List S57) (x8 : List S57) (x9 : List S62) : tree EV SVg 4000 .any (LNumbers_32 x0 x1 x2 x3 x4 x5 x6 x7 x8 x9) =
  (.br (decide (x5 < x4))
    (nd 1 <|
  .call 24 [.agg (encT .n31 x6), .int .i64 x1, .int .i64 x5] [] fun (r0 : Bool) =>
    nd 1 <|
  .call 24 [.agg [.sl .n57 x7 .no, .sl .n57 x8 .no, .sl .n62 x9 .no], .int .i64 x1, .int .i64 x5] [] fun (r1 : Bool) =>
    .br (!r0 == r1)
      (.ret (.bool false) [])
      (.stop (LNumbers_32 x0 x1 x2 x3 x4 (IntKind.i64.wrap (x5 + 1)) x6 x7 x8 x9)))
    (.stop (LNumbers_27 x0 x2 (IntKind.i64.wrap (x3 + 1)) x6 x7 x8 x9))   : Tr SVg) := by kernel_rfl
end Go.Proofs.YtnenfgpjedddoaaGreat.AI
