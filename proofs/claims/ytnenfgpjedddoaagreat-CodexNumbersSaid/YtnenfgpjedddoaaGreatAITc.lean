/- Decision trees of functions: written by a program of mine (aigen.py), proved by the kernel's own computation. -/
import Derived.Test.YtnenfgpjedddoaaGreatAISay
set_option maxRecDepth 100000
set_option linter.unusedVariables false
namespace Go.Proofs.YtnenfgpjedddoaaGreat.AI
open Go
abbrev SayR := (R : Type) × (R → V T × List (Ob T))
def sayOver (g : Nat) (x : SayR) (s : Nat → SayR) (n : Nat) : SayR := cond (Nat.beq n g) x (s n)
def mkSay (s : Nat → SayR) : Say T := ⟨fun f => (s f).1, fun f => (s f).2⟩
def sayList : SayR := ⟨(Bool × List S60), fun r => (.bool r.1, [.box 58 [.sl .n60 r.2 .no]])⟩
def sayExpr : SayR := ⟨(Bool × S60), fun r => (.bool r.1, [.box 60 (encT .n60 r.2)])⟩
def sayIntList : SayR := ⟨(Int × List S60), fun r => (.int .i64 r.1, [.box 58 [.sl .n60 r.2 .no]])⟩
def sayIntExpr : SayR := ⟨(Int × S60), fun r => (.int .i64 r.1, [.box 60 (encT .n60 r.2)])⟩
def sayB : SayR := ⟨Bool, fun r => (.bool r, [])⟩
def SVa : Say T := mkSay (sayOver 110 sayList (sayOver 164 sayIntList (sayOver 111 sayList (sayOver 112 sayExpr (sayOver 165 sayB sayT)))))
def SVb : Say T := mkSay (sayOver 110 sayExpr (sayOver 164 sayIntExpr (sayOver 111 sayList (sayOver 112 sayExpr (sayOver 165 sayB sayT)))))
def sayK : SayR := ⟨(Bool × S31 × List (Int × Int)), fun r => (.bool r.1, [.box 97 (encT .n31 r.2.1 ++ [.map 1]), .map .n3 .n3 r.2.2])⟩
def sayKI : SayR := ⟨(Int × S31 × List (Int × Int)), fun r => (.int .i64 r.1, [.box 97 (encT .n31 r.2.1 ++ [.map 1]), .map .n3 .n3 r.2.2])⟩
def sayM : SayR := ⟨(Bool × List (Int × Int)), fun r => (.bool r.1, [.map .n3 .n3 r.2])⟩
def sayI : SayR := ⟨Int, fun r => (.int .i64 r, [])⟩
def sayV : Nat → SayR := sayOver 56 sayB (sayOver 181 sayB (sayOver 207 sayI (sayOver 225 sayI (sayOver 59 sayK (sayOver 104 sayKI (sayOver 60 sayK (sayOver 61 sayM (sayOver 106 sayM (sayOver 157 sayM (sayOver 188 sayK (sayOver 212 sayExpr (sayOver 82 sayB sayT))))))))))))
def SVc : Say T := mkSay (sayOver 110 sayK (sayOver 164 sayKI sayV))
def SVd : Say T := mkSay (sayOver 110 sayExpr (sayOver 164 sayIntExpr sayV))
noncomputable def CContains_0 (a0 : List S60) (a1 : List S60) : Cfg T := entryC EV 65 [.sl .n60 a0 .no, .sl .n60 a1 .no] []
theorem CContains_0_eq (a0 : List S60) (a1 : List S60) : tree EV SVa 4000 .any (CContains_0 a0 a1) =
  (nd 1 <|
  .call 110 [.sl .n60 a1 .no, .fn 111 [] [.ptr 0 0]] [.box 58 [.sl .n60 a0 .no]] fun (r0 : Bool × List S60) =>
  .ret (.bool !r0.fst) []   : Tr SVa) := by kernel_rfl
noncomputable def CFa_0 (l : List S60) (a : List S60) : Cfg T := entryC EV 110 [.sl .n60 l .no, .fn 111 [] [.ptr 0 0]] [.box 58 [.sl .n60 a .no]]
theorem CFa_0_eq (l : List S60) (a : List S60) : tree EV SVa 4000 .any (CFa_0 l a) =
  (.call 164 [.sl .n60 l .no, .fn 111 [] [.ptr 0 0]] [.box 58 [.sl .n60 a .no]] fun (r0 : Int × List S60) =>
  .ret (.bool (decide (0 ≤ r0.fst))) [.box 58 [.sl .n60 r0.snd .no]]   : Tr SVa) := by kernel_rfl
noncomputable def IFa_0 (l : List S60) (a : List S60) : Cfg T := entryC EV 164 [.sl .n60 l .no, .fn 111 [] [.ptr 0 0]] [.box 58 [.sl .n60 a .no]]
noncomputable def IFa_2 (x0 : List S60) (x1 : Int) (x2 : Int) (x3 : List S60) : Cfg T := atCut EV 164 2 1 [(0, some (.sl .n60 x0 .no)), (1, some (.fn 111 [] [.ptr 0 0])), (7, some (.int .i64 x1)), (8, some (.int .i64 x2))] [.box 58 [.sl .n60 x3 .no]]
theorem IFa_0_eq (l : List S60) (a : List S60) : tree EV SVa 4000 .any (IFa_0 l a) =
  (.stop (IFa_2 l ((↑l.length : Int)) 0 a)   : Tr SVa) := by kernel_rfl
theorem IFa_2_eq (x0 : List S60) (x1 : Int) (x2 : Int) (x3 : List S60) : tree EV SVa 4000 .any (IFa_2 x0 x1 x2 x3) =
  (.br (decide (x2 < x1))
    (.need (decide (0 ≤ x2) && decide (x2 < (↑x0.length : Int))) <|
    .call 111 [.agg (encT .n60 (x0.getD x2.toNat d60)), .ptr 0 0] [.box 58 [.sl .n60 x3 .no]] fun (r0 : Bool × List S60) =>
    .br (r0.fst)
      (.ret (.int .i64 x2) [.box 58 [.sl .n60 r0.snd .no]])
      (.stop (IFa_2 x0 x1 (IntKind.i64.wrap (x2 + 1)) r0.snd)))
    (.ret (.int .i64 (-1)) [.box 58 [.sl .n60 x3 .no]])   : Tr SVa) := by kernel_rfl
noncomputable def CC1_0 (x : S60) (a : List S60) : Cfg T := entryC EV 111 [.agg (encT .n60 x), .ptr 0 0] [.box 58 [.sl .n60 a .no]]
theorem CC1_0_eq (x : S60) (a : List S60) : tree EV SVb 4000 .any (CC1_0 x a) =
  (nd 2 <|
  .call 110 [.sl .n60 a .no, .fn 112 [] [.ptr 0 0]] [.box 60 (encT .n60 x)] fun (r0 : Bool × S60) =>
  .ret (.bool !r0.fst) [.box 58 [.sl .n60 a .no]]   : Tr SVb) := by kernel_rfl
noncomputable def CFb_0 (l : List S60) (x : S60) : Cfg T := entryC EV 110 [.sl .n60 l .no, .fn 112 [] [.ptr 0 0]] [.box 60 (encT .n60 x)]
theorem CFb_0_eq (l : List S60) (x : S60) : tree EV SVb 4000 .any (CFb_0 l x) =
  (.call 164 [.sl .n60 l .no, .fn 112 [] [.ptr 0 0]] [.box 60 (encT .n60 x)] fun (r0 : Int × S60) =>
  .ret (.bool (decide (0 ≤ r0.fst))) [.box 60 (encT .n60 r0.snd)]   : Tr SVb) := by kernel_rfl
noncomputable def IFb_0 (l : List S60) (x : S60) : Cfg T := entryC EV 164 [.sl .n60 l .no, .fn 112 [] [.ptr 0 0]] [.box 60 (encT .n60 x)]
noncomputable def IFb_2 (x0 : List S60) (x1 : Int) (x2 : Int) (x3 : S60) : Cfg T := atCut EV 164 2 1 [(0, some (.sl .n60 x0 .no)), (1, some (.fn 112 [] [.ptr 0 0])), (7, some (.int .i64 x1)), (8, some (.int .i64 x2))] [.box 60 (encT .n60 x3)]
theorem IFb_0_eq (l : List S60) (x : S60) : tree EV SVb 4000 .any (IFb_0 l x) =
  (.stop (IFb_2 l ((↑l.length : Int)) 0 x)   : Tr SVb) := by kernel_rfl
theorem IFb_2_eq (x0 : List S60) (x1 : Int) (x2 : Int) (x3 : S60) : tree EV SVb 4000 .any (IFb_2 x0 x1 x2 x3) =
  (.br (decide (x2 < x1))
    (.need (decide (0 ≤ x2) && decide (x2 < (↑x0.length : Int))) <|
    .call 112 [.agg (encT .n60 (x0.getD x2.toNat d60)), .ptr 0 0] [.box 60 (encT .n60 x3)] fun (r0 : Bool × S60) =>
    .br (r0.fst)
      (.ret (.int .i64 x2) [.box 60 (encT .n60 r0.snd)])
      (.stop (IFb_2 x0 x1 (IntKind.i64.wrap (x2 + 1)) r0.snd)))
    (.ret (.int .i64 (-1)) [.box 60 (encT .n60 x3)])   : Tr SVb) := by kernel_rfl
noncomputable def CC2_0 (y : S60) (x : S60) : Cfg T := entryC EV 112 [.agg (encT .n60 y), .ptr 0 0] [.box 60 (encT .n60 x)]
theorem CC2_0_eq (y : S60) (x : S60) : tree EV SVb 4000 .any (CC2_0 y x) =
  (nd 3 <|
  .call 113 [.agg (encT .n60 x), .agg (encT .n60 y)] [] fun (r0 : Bool) =>
  .ret (.bool r0) [.box 60 (encT .n60 x)]   : Tr SVb) := by kernel_rfl
noncomputable def CSame_0 (a0 : S60) (a1 : S60) : Cfg T := entryC EV 113 [.agg (encT .n60 a0), .agg (encT .n60 a1)] []
theorem CSame_0_eq (a0 : S60) (a1 : S60) : tree EV SVa 4000 (.two (.yes (.yes (.yes (.yes (.two (.yes (.yes (.yes (.yes (.two (.yes (.yes (.yes (.yes (.yes (.yes (.two (.yes (.yes (.yes (.yes (.yes (.yes (.two (.yes (.yes (.yes (.yes .any)))) (.no (.no (.no (.no .any))))))))))) (.no (.no (.no (.no (.no (.no (.no (.no (.no (.no (.no .any)))))))))))))))))) (.no (.no (.no (.no (.no (.no (.no (.no (.no (.no (.no (.no (.no (.no (.no (.no (.no (.no .any))))))))))))))))))))))) (.no (.no (.no (.no (.no (.no (.no (.no (.no (.no (.no (.no (.no (.no (.no (.no (.no (.no (.no (.no (.no (.no (.no .any)))))))))))))))))))))))))))) (.no (.no (.no (.no (.no (.no (.no (.no (.no (.no (.no (.no (.no (.no (.no (.no (.no (.no (.no (.no (.no (.no (.no (.no (.no (.no (.no (.no .any))))))))))))))))))))))))))))) (CSame_0 a0 a1) =
  (nd 4 <|
  .br (a0.f0 == a1.f0)
    (nd 6 <|
  .br (a0.f1 == a1.f1)
      (nd 6 <|
  .br (a0.f2 == a1.f2)
        (nd 8 <|
  .br (a0.f3.f0 == a1.f3.f0)
          (nd 8 <|
  .call 132 [.sl .n158 a0.f3.f1 .no, .sl .n158 a1.f3.f1 .no] [] fun (r0 : Bool) =>
          .br (r0)
            (nd 6 <|
  .call 165 [.sl .n60 a0.f4 .no, .sl .n60 a1.f4 .no, .fn 113 [] []] [] fun (r1 : Bool) =>
            .ret (.bool r1) [])
            (nd 5 <|
  .ret (.bool false) []))
          (nd 13 <|
  .ret (.bool false) []))
        (nd 21 <|
  .ret (.bool false) []))
      (nd 27 <|
  .ret (.bool false) []))
    (nd 33 <|
  .ret (.bool false) [])   : Tr SVa) := by kernel_rfl
noncomputable def EqPieces_0 (a0 : List S158) (a1 : List S158) : Cfg T := entryC EV 132 [.sl .n158 a0 .no, .sl .n158 a1 .no] []
noncomputable def EqPieces_4 (x0 : List S158) (x1 : List S158) (x2 : Int) (x3 : Int) : Cfg T := atCut EV 132 4 0 [(0, some (.sl .n158 x0 .no)), (1, some (.sl .n158 x1 .no)), (12, some (.int .i64 x2)), (13, some (.int .i64 x3))] []
theorem EqPieces_0_eq (a0 : List S158) (a1 : List S158) : tree EV SV 4000 .any (EqPieces_0 a0 a1) =
  (.br (!(↑a0.length : Int) == (↑a1.length : Int))
    (.ret (.bool false) [])
    (.stop (EqPieces_4 a0 a1 ((↑a0.length : Int)) 0))   : Tr SV) := by kernel_rfl
theorem EqPieces_4_eq (x0 : List S158) (x1 : List S158) (x2 : Int) (x3 : Int) : tree EV SV 4000 .any (EqPieces_4 x0 x1 x2 x3) =
  (.br (decide (x3 < x2))
    (.need (decide (0 ≤ x3) && decide (x3 < (↑x0.length : Int))) <|
    .need (decide (0 ≤ x3) && decide (x3 < (↑x1.length : Int))) <|
    .br (!((x0.getD x3.toNat d158).f0 == (x1.getD x3.toNat d158).f0 && ((x0.getD x3.toNat d158).f1 == (x1.getD x3.toNat d158).f1 && ((x0.getD x3.toNat d158).f2 == (x1.getD x3.toNat d158).f2 && true))))
      (.ret (.bool false) [])
      (.stop (EqPieces_4 x0 x1 x2 (IntKind.i64.wrap (x3 + 1)))))
    (.ret (.bool true) [])   : Tr SV) := by kernel_rfl
noncomputable def EqF_0 (a : List S60) (b : List S60) : Cfg T := entryC EV 165 [.sl .n60 a .no, .sl .n60 b .no, .fn 113 [] []] []
noncomputable def EqF_4 (x0 : List S60) (x1 : List S60) (x2 : Int) (x3 : Int) : Cfg T := atCut EV 165 4 0 [(1, some (.sl .n60 x0 .no)), (2, some (.fn 113 [] [])), (15, some (.sl .n60 x1 .no)), (16, some (.int .i64 x2)), (17, some (.int .i64 x3))] []
theorem EqF_0_eq (a : List S60) (b : List S60) : tree EV SV 4000 .any (EqF_0 a b) =
  (.br (!(↑a.length : Int) == (↑b.length : Int))
    (.ret (.bool false) [])
    (.stop (EqF_4 b a ((↑a.length : Int)) 0))   : Tr SV) := by kernel_rfl
theorem EqF_4_eq (x0 : List S60) (x1 : List S60) (x2 : Int) (x3 : Int) : tree EV SV 4000 .any (EqF_4 x0 x1 x2 x3) =
  (.br (decide (x3 < x2))
    (.need (decide (0 ≤ x3) && decide (x3 < (↑x1.length : Int))) <|
    nd 2 <|
  .need (decide (0 ≤ x3) && decide (x3 < (↑x0.length : Int))) <|
    nd 4 <|
  .call 113 [.agg (encT .n60 (x1.getD x3.toNat d60)), .agg (encT .n60 (x0.getD x3.toNat d60))] [] fun (r0 : Bool) =>
    .br (!r0)
      (.ret (.bool false) [])
      (.stop (EqF_4 x0 x1 x2 (IntKind.i64.wrap (x3 + 1)))))
    (.ret (.bool true) [])   : Tr SV) := by kernel_rfl
noncomputable def CBeats_0 (a0 : S31) (a1 : Int) (a2 : Int) : Cfg T := entryC EV 24 [.agg (encT .n31 a0), .int .i64 a1, .int .i64 a2] []
theorem CBeats_0_eq (a0 : S31) (a1 : Int) (a2 : Int) : tree EV SV 4000 (.two (.yes (.yes (.yes (.yes (.yes (.yes (.two .any (.two (.yes (.yes (.yes (.yes .any)))) (.no (.no (.no (.no (.yes .any))))))))))))) (.no (.no (.no (.no (.no (.no (.yes .any)))))))) (CBeats_0 a0 a1 a2) =
  (nd 1 <|
  .br (!decide ((if a2 < a1 then a2 else a1) < 0))
    (nd 7 <|
  .br (decide ((↑a0.f2.length : Int) ≤ if a2 > a1 then a2 else a1))
      (.ret (.bool false) [])
      (nd 1 <|
  .need (decide (0 ≤ a1) && decide (a1 < (↑a0.f2.length : Int))) <|
      nd 1 <|
  .need (decide (0 ≤ a2) && decide (a2 < (↑a0.f2.length : Int))) <|
      nd 6 <|
  .br (!!(a0.f2.getD a1.toNat d62).f1 == (a0.f2.getD a2.toNat d62).f1)
        (nd 6 <|
  .br ((a0.f2.getD a1.toNat d62).f0 == (a0.f2.getD a2.toNat d62).f0)
          (.ret (.bool false) [])
          (nd 2 <|
  .br (!(a0.f2.getD a1.toNat d62).f2 == (a0.f2.getD a2.toNat d62).f2)
            (nd 2 <|
  .ret (.bool (decide ((a0.f2.getD a2.toNat d62).f2 < (a0.f2.getD a1.toNat d62).f2))) [])
            (nd 2 <|
  .call 65 [.sl .n60 ((a0.f2.getD a1.toNat d62).f6) .no, .sl .n60 ((a0.f2.getD a2.toNat d62).f6) .no] [] fun (r0 : Bool) =>
            nd 2 <|
  .call 65 [.sl .n60 ((a0.f2.getD a2.toNat d62).f6) .no, .sl .n60 ((a0.f2.getD a1.toNat d62).f6) .no] [] fun (r1 : Bool) =>
            .br (!r0 == r1)
              (.ret (.bool r0) [])
              (nd 2 <|
  .ret (.bool (decide ((a0.f2.getD a2.toNat d62).f5 < (a0.f2.getD a1.toNat d62).f5))) []))))
        (nd 6 <|
  .ret (.bool false) [])))
    (nd 8 <|
  .ret (.bool false) [])   : Tr SV) := by kernel_rfl
noncomputable def LContains_0 (a0 : List S60) (a1 : List S60) : Cfg T := entryC EV 35 [.sl .n60 a0 .no, .sl .n60 a1 .no] []
noncomputable def LContains_2 (x0 : List S60) (x1 : List S60) (x2 : Int) (x3 : Int) : Cfg T := atCut EV 35 2 0 [(0, some (.sl .n60 x0 .no)), (10, some (.sl .n60 x1 .no)), (11, some (.int .i64 x2)), (12, some (.int .i64 x3))] []
theorem LContains_0_eq (a0 : List S60) (a1 : List S60) : tree EV SV 4000 .any (LContains_0 a0 a1) =
  (.stop (LContains_2 a0 a1 ((↑a1.length : Int)) 0)   : Tr SV) := by kernel_rfl
noncomputable def LContains_6 (x0 : List S60) (x1 : Bool) (x2 : List S60) (x3 : Int) (x4 : Int) (x5 : List S60) (x6 : Int) (x7 : Int) (x8 : S60) : Cfg T := atCut EV 35 6 0 [(0, some (.sl .n60 x0 .no)), (6, some (.ptr 0 0)), (7, some (.bool x1)), (10, some (.sl .n60 x2 .no)), (11, some (.int .i64 x3)), (12, some (.int .i64 x4)), (16, some (.sl .n60 x5 .no)), (17, some (.int .i64 x6)), (18, some (.int .i64 x7))] [.box 60 (encT .n60 x8)]
theorem LContains_2_eq (x0 : List S60) (x1 : List S60) (x2 : Int) (x3 : Int) : tree EV SV 4000 .any (LContains_2 x0 x1 x2 x3) =
  (.br (decide (x3 < x2))
    (.need (decide (0 ≤ x3) && decide (x3 < (↑x1.length : Int))) <|
    nd 2 <|
  .stop (LContains_6 x0 false x1 x2 x3 x0 ((↑x0.length : Int)) 0 (x1.getD x3.toNat d60)))
    (.ret (.bool true) [])   : Tr SV) := by kernel_rfl
theorem LContains_6_eq (x0 : List S60) (x1 : Bool) (x2 : List S60) (x3 : Int) (x4 : Int) (x5 : List S60) (x6 : Int) (x7 : Int) (x8 : S60) : tree EV SV 4000 (.two (.two (.yes (.yes .any)) (.no (.no .any))) .any) (LContains_6 x0 x1 x2 x3 x4 x5 x6 x7 x8) =
  (.br (decide (x7 < x6))
    (.need (decide (0 ≤ x7) && decide (x7 < (↑x5.length : Int))) <|
    nd 2 <|
  .br (!x1)
      (nd 4 <|
  .call 41 [.agg (encT .n60 x8), .agg (encT .n60 (x5.getD x7.toNat d60))] [] fun (r0 : Bool) =>
      .stop (LContains_6 x0 r0 x2 x3 x4 x5 x6 (IntKind.i64.wrap (x7 + 1)) x8))
      (nd 3 <|
  .stop (LContains_6 x0 true x2 x3 x4 x5 x6 (IntKind.i64.wrap (x7 + 1)) x8)))
    (.br (!x1)
      (.ret (.bool false) [])
      (.stop (LContains_2 x0 x2 x3 (IntKind.i64.wrap (x4 + 1)))))   : Tr SV) := by kernel_rfl
noncomputable def RContains_0 (a0 : List S60) (a1 : List S60) : Cfg T := entryC EV 66 [.sl .n60 a0 .no, .sl .n60 a1 .no] []
noncomputable def RContains_2 (x0 : List S60) (x1 : List S60) (x2 : Int) : Cfg T := atCut EV 66 2 0 [(0, some (.sl .n60 x0 .no)), (1, some (.sl .n60 x1 .no)), (5, some (.int .i64 x2))] []
theorem RContains_0_eq (a0 : List S60) (a1 : List S60) : tree EV SV 4000 .any (RContains_0 a0 a1) =
  (.stop (RContains_2 a0 a1 0)   : Tr SV) := by kernel_rfl
noncomputable def RContains_6 (x0 : List S60) (x1 : List S60) (x2 : Int) (x3 : Bool) (x4 : Int) : Cfg T := atCut EV 66 6 0 [(0, some (.sl .n60 x0 .no)), (1, some (.sl .n60 x1 .no)), (5, some (.int .i64 x2)), (6, some (.bool x3)), (7, some (.int .i64 x4))] []
theorem RContains_2_eq (x0 : List S60) (x1 : List S60) (x2 : Int) : tree EV SV 4000 .any (RContains_2 x0 x1 x2) =
  (.br (decide (x2 < (↑x1.length : Int)))
    (.stop (RContains_6 x0 x1 x2 false 0))
    (.ret (.bool true) [])   : Tr SV) := by kernel_rfl
theorem RContains_6_eq (x0 : List S60) (x1 : List S60) (x2 : Int) (x3 : Bool) (x4 : Int) : tree EV SV 4000 (.two (.yes .any) (.no (.no .any))) (RContains_6 x0 x1 x2 x3 x4) =
  (.br (decide (x4 < (↑x0.length : Int)))
    (nd 1 <|
  .br (!x3)
      (.need (decide (0 ≤ x4) && decide (x4 < (↑x0.length : Int))) <|
      .need (decide (0 ≤ x2) && decide (x2 < (↑x1.length : Int))) <|
      .call 41 [.agg (encT .n60 (x0.getD x4.toNat d60)), .agg (encT .n60 (x1.getD x2.toNat d60))] [] fun (r0 : Bool) =>
      .stop (RContains_6 x0 x1 x2 r0 (IntKind.i64.wrap (x4 + 1))))
      (.br (!x3)
        (.ret (.bool false) [])
        (.stop (RContains_2 x0 x1 (IntKind.i64.wrap (x2 + 1))))))
    (nd 3 <|
  .br (!x3)
      (.ret (.bool false) [])
      (.stop (RContains_2 x0 x1 (IntKind.i64.wrap (x2 + 1)))))   : Tr SV) := by kernel_rfl
noncomputable def RBeats_0 (a0 : S31) (a1 : Int) (a2 : Int) : Cfg T := entryC EV 25 [.agg (encT .n31 a0), .int .i64 a1, .int .i64 a2] []
theorem RBeats_0_eq (a0 : S31) (a1 : Int) (a2 : Int) : tree EV SV 4000 (.two (.yes (.two (.yes (.yes (.yes (.yes (.two (.yes (.yes (.yes (.yes (.two .any (.two (.yes (.yes (.yes (.yes .any)))) (.no (.no (.no (.no (.yes .any))))))))))) (.no (.no (.no (.no (.yes .any)))))))))) (.no (.no (.no (.no (.no (.no (.no (.no (.no (.yes .any)))))))))))) (.no (.no (.no (.no (.no (.no (.no (.no (.no (.no (.no (.yes .any))))))))))))) (RBeats_0 a0 a1 a2) =
  (nd 1 <|
  .br (!decide (a1 < 0))
    (nd 1 <|
  .br (!decide (a2 < 0))
      (nd 5 <|
  .br (!decide ((↑a0.f2.length : Int) ≤ a1))
        (nd 5 <|
  .br (decide ((↑a0.f2.length : Int) ≤ a2))
          (.ret (.bool false) [])
          (nd 1 <|
  .need (decide (0 ≤ a1) && decide (a1 < (↑a0.f2.length : Int))) <|
          nd 3 <|
  .need (decide (0 ≤ a2) && decide (a2 < (↑a0.f2.length : Int))) <|
          nd 4 <|
  .br (!!(a0.f2.getD a1.toNat d62).f1 == (a0.f2.getD a2.toNat d62).f1)
            (nd 6 <|
  .br ((a0.f2.getD a1.toNat d62).f0 == (a0.f2.getD a2.toNat d62).f0)
              (.ret (.bool false) [])
              (nd 2 <|
  .br (!(a0.f2.getD a1.toNat d62).f2 == (a0.f2.getD a2.toNat d62).f2)
                (nd 2 <|
  .ret (.bool (decide ((a0.f2.getD a2.toNat d62).f2 < (a0.f2.getD a1.toNat d62).f2))) [])
                (nd 2 <|
  .call 66 [.sl .n60 ((a0.f2.getD a1.toNat d62).f6) .no, .sl .n60 ((a0.f2.getD a2.toNat d62).f6) .no] [] fun (r0 : Bool) =>
                nd 2 <|
  .call 66 [.sl .n60 ((a0.f2.getD a2.toNat d62).f6) .no, .sl .n60 ((a0.f2.getD a1.toNat d62).f6) .no] [] fun (r1 : Bool) =>
                .br (!r0 == r1)
                  (.ret (.bool r0) [])
                  (nd 2 <|
  .ret (.bool (decide ((a0.f2.getD a2.toNat d62).f5 < (a0.f2.getD a1.toNat d62).f5))) []))))
            (nd 6 <|
  .ret (.bool false) [])))
        (nd 6 <|
  .ret (.bool false) []))
      (nd 12 <|
  .ret (.bool false) []))
    (nd 15 <|
  .ret (.bool false) [])   : Tr SV) := by kernel_rfl
end Go.Proofs.YtnenfgpjedddoaaGreat.AI
