/- Decision trees of functions: written by a program of mine (aigen.py), proved by the kernel's own computation. -/
import Derived.Test.YtnenfgpjedddoaaGreatAISay
import Derived.Test.YtnenfgpjedddoaaGreatAITc
set_option maxRecDepth 100000
set_option linter.unusedVariables false
namespace Go.Proofs.YtnenfgpjedddoaaGreat.AI
open Go
noncomputable def RValid_0 (a0 : S31) : Cfg T := entryC EV 23 [.agg (encT .n31 a0)] []
noncomputable def RValid_4 (x0 : Int) (x1 : S31) : Cfg T := atCut EV 23 4 0 [(1, some (.ptr 0 0)), (3, some (.int .i64 x0))] [.box 31 (encT .n31 x1)]
theorem RValid_0_eq (a0 : S31) : tree EV SV 4000 (.two (.yes (.yes (.yes (.two (.yes (.yes (.yes .any))) (.no (.no (.no (.yes .any)))))))) (.no (.no (.no (.no (.no (.no (.no (.yes .any))))))))) (RValid_0 a0) =
  (nd 2 <|
  .call 62 [.sl .n57 a0.f0 .no, .int .i64 0, .int .i64 0] [] fun (r0 : Bool) =>
  .br (!!r0)
    (nd 3 <|
  .call 62 [.sl .n57 a0.f1 .no, .int .i64 1, .int .i64 4] [] fun (r1 : Bool) =>
    nd 1 <|
  .br (!!r1)
      (nd 4 <|
  .br (decide (60 < (↑a0.f2.length : Int)))
        (.ret (.bool false) [])
        (.stop (RValid_4 0 a0)))
      (nd 5 <|
  .ret (.bool false) []))
    (nd 10 <|
  .ret (.bool false) [])   : Tr SV) := by kernel_rfl
noncomputable def RValid_12 (x0 : Int) (x1 : Int) (x2 : S31) (x3 : S62) : Cfg T := atCut EV 23 12 0 [(1, some (.ptr 0 0)), (3, some (.int .i64 x0)), (4, some (.ptr 1 0)), (5, some (.int .i64 x1))] [.box 31 (encT .n31 x2), .box 62 (encT .n62 x3)]
theorem RValid_4_eq (x0 : Int) (x1 : S31) : tree EV SV 4000 (.two (.two (.yes (.yes (.two (.yes (.yes (.two (.yes (.yes (.yes (.yes (.yes (.two (.yes (.yes (.yes (.yes (.yes (.yes (.yes (.yes (.yes (.yes (.yes (.two (.yes (.yes (.two (.yes (.yes (.two .any (.two (.yes (.yes (.yes (.yes (.two (.yes (.yes (.two (.yes (.yes (.two (.yes (.yes .any)) (.no (.no (.yes .any)))))) (.no (.no (.no (.no (.no (.yes .any))))))))) (.no (.no (.no (.no (.no (.no (.no (.no (.yes .any)))))))))))))) (.no (.no (.no (.no (.no (.no (.no (.no (.no (.no (.no (.no (.no (.yes .any)))))))))))))))))) (.no (.no (.yes .any)))))) (.no (.no (.no (.no (.no (.yes .any)))))))))))))))))) (.no (.no (.no (.no (.no (.no (.no (.no (.no (.no (.no (.no (.no (.no (.no (.no (.no (.yes .any)))))))))))))))))))))))) (.no (.no (.no (.no (.no (.no (.no (.no (.no (.no (.no (.no (.no (.no (.no (.no (.no (.no (.no (.no (.no (.no (.no (.yes .any))))))))))))))))))))))))))) (.no (.no (.no (.no (.no (.no (.no (.no (.no (.no (.no (.no (.no (.no (.no (.no (.no (.no (.no (.no (.no (.no (.no (.no (.no (.no (.yes .any)))))))))))))))))))))))))))))) (.no (.no (.no (.no (.no (.no (.no (.no (.no (.no (.no (.no (.no (.no (.no (.no (.no (.no (.no (.no (.no (.no (.no (.no (.no (.no (.no (.no (.no (.yes .any))))))))))))))))))))))))))))))) .any) (RValid_4 x0 x1) =
  (nd 1 <|
  .br (decide (x0 < (↑x1.f2.length : Int)))
    (nd 1 <|
  .need (decide (0 ≤ x0) && decide (x0 < (↑x1.f2.length : Int))) <|
    nd 3 <|
  .br (!decide ((x1.f2.getD x0.toNat d62).f0 < 1))
      (nd 3 <|
  .br (!decide (1000000 < (x1.f2.getD x0.toNat d62).f0))
        (nd 3 <|
  .br (!decide ((x1.f2.getD x0.toNat d62).f1 < 0))
          (nd 7 <|
  .br (!decide ((↑x1.f1.length : Int) ≤ (x1.f2.getD x0.toNat d62).f1))
            (nd 11 <|
  .call 63 [.agg (encT .n31 x1), .int .i64 ((x1.f2.getD x0.toNat d62).f0)] [] fun (r0 : Int) =>
            nd 1 <|
  .need (decide (0 ≤ r0) && decide (r0 < (↑x1.f2.length : Int))) <|
            nd 3 <|
  .br (!!(x1.f2.getD x0.toNat d62).f1 == (x1.f2.getD r0.toNat d62).f1)
              (nd 3 <|
  .br (!decide ((x1.f2.getD x0.toNat d62).f2 < 0))
                (nd 3 <|
  .br (decide (1000000 < (x1.f2.getD x0.toNat d62).f2))
                  (.ret (.bool false) [])
                  (nd 1 <|
  .br (!decide ((x1.f2.getD x0.toNat d62).f3 < 0))
                    (nd 6 <|
  .br (!decide ((x1.f2.getD x0.toNat d62).f4 ≤ (x1.f2.getD x0.toNat d62).f3))
                      (nd 3 <|
  .br (!decide (36525 < (x1.f2.getD x0.toNat d62).f4))
                        (nd 3 <|
  .br (!decide ((x1.f2.getD x0.toNat d62).f5 < 0))
                          (nd 3 <|
  .br (decide (36524 < (x1.f2.getD x0.toNat d62).f5))
                            (.ret (.bool false) [])
                            (.stop (RValid_12 x0 0 x1 (x1.f2.getD x0.toNat d62))))
                          (nd 4 <|
  .ret (.bool false) []))
                        (nd 8 <|
  .ret (.bool false) []))
                      (nd 12 <|
  .ret (.bool false) []))
                    (nd 18 <|
  .ret (.bool false) [])))
                (nd 4 <|
  .ret (.bool false) []))
              (nd 8 <|
  .ret (.bool false) []))
            (nd 21 <|
  .ret (.bool false) []))
          (nd 28 <|
  .ret (.bool false) []))
        (nd 32 <|
  .ret (.bool false) []))
      (nd 36 <|
  .ret (.bool false) []))
    (.ret (.bool true) [])   : Tr SV) := by kernel_rfl
noncomputable def RValid_17 (x0 : Int) (x1 : Int) (x2 : S31) (x3 : S62) : Cfg T := atCut EV 23 17 0 [(1, some (.ptr 0 0)), (3, some (.int .i64 x0)), (4, some (.ptr 1 0)), (6, some (.int .i64 x1))] [.box 31 (encT .n31 x2), .box 62 (encT .n62 x3)]
theorem RValid_12_eq (x0 : Int) (x1 : Int) (x2 : S31) (x3 : S62) : tree EV SV 4000 (.two (.two (.yes (.yes (.yes (.yes (.yes (.yes .any)))))) (.no (.no (.no (.no (.no (.no (.yes .any)))))))) .any) (RValid_12 x0 x1 x2 x3) =
  (nd 1 <|
  .br (decide (x1 < (↑x3.f6.length : Int)))
    (nd 2 <|
  .need (decide (0 ≤ x1) && decide (x1 < (↑x3.f6.length : Int))) <|
    .call 64 [.agg (encT .n31 x2), .agg (encT .n60 (x3.f6.getD x1.toNat d60))] [] fun (r0 : Bool) =>
    .br (!!r0)
      (nd 4 <|
  .need (decide (0 ≤ x1) && decide (x1 < (↑x3.f6.length : Int))) <|
      nd 3 <|
  .br (!(x3.f6.getD x1.toNat d60).f2 == ([116, 114, 117, 116, 104] : List UInt8))
        (.ret (.bool false) [])
        (.stop (RValid_12 x0 (IntKind.i64.wrap (x1 + 1)) x2 x3)))
      (nd 8 <|
  .ret (.bool false) []))
    (.stop (RValid_17 x0 0 x2 x3))   : Tr SV) := by kernel_rfl
theorem RValid_17_eq (x0 : Int) (x1 : Int) (x2 : S31) (x3 : S62) : tree EV SV 4000 (.two .any (.two (.yes (.yes (.yes (.yes (.yes (.yes (.yes (.yes (.yes (.yes .any)))))))))) (.no (.no (.no (.no (.no (.no (.no (.no (.no (.no (.yes .any))))))))))))) (RValid_17 x0 x1 x2 x3) =
  (nd 1 <|
  .br (decide (x1 < (↑x3.f7.length : Int)))
    (nd 2 <|
  .need (decide (0 ≤ x1) && decide (x1 < (↑x3.f7.length : Int))) <|
    .call 63 [.agg (encT .n31 x2), .int .i64 (x3.f7.getD x1.toNat 0)] [] fun (r0 : Int) =>
    .br (decide (r0 < 0))
      (.ret (.bool false) [])
      (.stop (RValid_17 x0 (IntKind.i64.wrap (x1 + 1)) x2 x3)))
    (nd 2 <|
  .call 64 [.agg (encT .n31 x2), .agg (encT .n60 x3.f8)] [] fun (r0 : Bool) =>
    .br (!!r0)
      (nd 10 <|
  .need (decide (0 ≤ x3.f1) && decide (x3.f1 < (↑x2.f1.length : Int))) <|
      nd 3 <|
  .br (!x3.f8.f2 == (x2.f1.getD x3.f1.toNat d57).f1)
        (.ret (.bool false) [])
        (.stop (RValid_4 (IntKind.i64.wrap (x0 + 1)) x2)))
      (nd 12 <|
  .ret (.bool false) []))   : Tr SV) := by kernel_rfl
noncomputable def RDecls_0 (a0 : List S57) (a1 : Int) (a2 : Int) : Cfg T := entryC EV 62 [.sl .n57 a0 .no, .int .i64 a1, .int .i64 a2] []
noncomputable def RDecls_2 (x0 : List S57) (x1 : Int) (x2 : Int) (x3 : Int) : Cfg T := atCut EV 62 2 0 [(0, some (.sl .n57 x0 .no)), (1, some (.int .i64 x1)), (2, some (.int .i64 x2)), (7, some (.int .i64 x3))] []
theorem RDecls_0_eq (a0 : List S57) (a1 : Int) (a2 : Int) : tree EV SV 4000 .any (RDecls_0 a0 a1 a2) =
  (.stop (RDecls_2 a0 a1 a2 0)   : Tr SV) := by kernel_rfl
theorem RDecls_2_eq (x0 : List S57) (x1 : Int) (x2 : Int) (x3 : Int) : tree EV SV 4000 (.two (.two (.yes (.yes (.yes (.yes (.yes (.yes (.two (.yes (.yes (.yes (.yes (.yes (.yes (.two (.yes (.yes (.yes (.yes (.yes (.yes (.two (.yes (.yes (.yes (.yes (.yes (.yes (.yes (.yes .any)))))))) (.no (.no (.no (.no (.no (.no (.no (.no (.yes .any)))))))))))))))) (.no (.no (.no (.no (.no (.no (.no (.no (.no (.no (.no (.no (.no (.no (.no (.yes .any))))))))))))))))))))))) (.no (.no (.no (.no (.no (.no (.no (.no (.no (.no (.no (.no (.no (.no (.no (.no (.no (.no (.no (.no (.no (.no (.yes .any)))))))))))))))))))))))))))))) (.no (.no (.no (.no (.no (.no (.no (.no (.no (.no (.no (.no (.no (.no (.no (.no (.no (.no (.no (.no (.no (.no (.no (.no (.no (.no (.no (.no (.no (.yes .any))))))))))))))))))))))))))))))) .any) (RDecls_2 x0 x1 x2 x3) =
  (.br (decide (x3 < (↑x0.length : Int)))
    (.need (decide (0 ≤ x3) && decide (x3 < (↑x0.length : Int))) <|
    .call 107 [.str ((x0.getD x3.toNat d57).f0)] [] fun (r0 : Bool) =>
    .br (!!r0)
      (nd 2 <|
  .need (decide (0 ≤ x3) && decide (x3 < (↑x0.length : Int))) <|
      nd 3 <|
  .call 108 [.str ((x0.getD x3.toNat d57).f1)] [] fun (r1 : Bool) =>
      nd 1 <|
  .br (!!r1)
        (nd 2 <|
  .need (decide (0 ≤ x3) && decide (x3 < (↑x0.length : Int))) <|
        nd 4 <|
  .br (!decide ((x0.getD x3.toNat d57).f2 < x1))
          (nd 2 <|
  .need (decide (0 ≤ x3) && decide (x3 < (↑x0.length : Int))) <|
          nd 4 <|
  .br (!decide (x2 < (x0.getD x3.toNat d57).f2))
            (nd 3 <|
  .need (decide (0 ≤ x3) && decide (x3 < (↑x0.length : Int))) <|
            nd 3 <|
  .call 95 [.sl .n57 x0 .no, .str ((x0.getD x3.toNat d57).f0)] [] fun (r2 : Int) =>
            nd 2 <|
  .br (!r2 == x3)
              (.ret (.bool false) [])
              (.stop (RDecls_2 x0 x1 x2 (IntKind.i64.wrap (x3 + 1)))))
            (nd 10 <|
  .ret (.bool false) []))
          (nd 18 <|
  .ret (.bool false) []))
        (nd 26 <|
  .ret (.bool false) []))
      (nd 34 <|
  .ret (.bool false) []))
    (.ret (.bool (decide ((↑x0.length : Int) ≤ 32))) [])   : Tr SV) := by kernel_rfl
noncomputable def RDecl_0 (a0 : List S57) (a1 : List UInt8) : Cfg T := entryC EV 95 [.sl .n57 a0 .no, .str a1] []
noncomputable def RDecl_2 (x0 : List S57) (x1 : List UInt8) (x2 : Int) : Cfg T := atCut EV 95 2 0 [(0, some (.sl .n57 x0 .no)), (1, some (.str x1)), (5, some (.int .i64 x2))] []
theorem RDecl_0_eq (a0 : List S57) (a1 : List UInt8) : tree EV SV 4000 .any (RDecl_0 a0 a1) =
  (.stop (RDecl_2 a0 a1 0)   : Tr SV) := by kernel_rfl
theorem RDecl_2_eq (x0 : List S57) (x1 : List UInt8) (x2 : Int) : tree EV SV 4000 .any (RDecl_2 x0 x1 x2) =
  (.br (decide (x2 < (↑x0.length : Int)))
    (.need (decide (0 ≤ x2) && decide (x2 < (↑x0.length : Int))) <|
    .br ((x0.getD x2.toNat d57).f0 == x1)
      (.ret (.int .i64 x2) [])
      (.stop (RDecl_2 x0 x1 (IntKind.i64.wrap (x2 + 1)))))
    (.ret (.int .i64 (-1)) [])   : Tr SV) := by kernel_rfl
noncomputable def PName_0 (a0 : List UInt8) : Cfg T := entryC EV 107 [.str a0] []
noncomputable def PName_4 (x0 : List UInt8) (x1 : Int) : Cfg T := atCut EV 107 4 0 [(0, some (.str x0)), (3, some (.int .i64 x1))] []
theorem PName_0_eq (a0 : List UInt8) : tree EV SV 4000 (.two (.yes (.yes (.two (.yes (.yes (.yes (.two (.yes (.yes .any)) (.no (.no (.yes .any))))))) (.no (.no (.no (.no (.no (.no (.yes .any)))))))))) (.no (.no (.no (.no (.no (.no (.no (.no (.no (.yes .any))))))))))) (PName_0 a0) =
  (.br (!decide ((↑a0.length : Int) < 1))
    (nd 2 <|
  .br (!decide (16 < (↑a0.length : Int)))
      (nd 1 <|
  .need (decide (0 ≤ 0) && decide (0 < (↑a0.length : Int))) <|
      nd 1 <|
  .call 158 [.int .u8 ((↑(a0.getD (Int.toNat 0) 0).toNat : Int))] [] fun (r0 : Bool) =>
      nd 1 <|
  .br (!!r0)
        (.call 159 [] [] fun (r1 : List (List UInt8)) =>
        nd 2 <|
  .call 116 [.sl .n9 r1 .no, .str a0] [] fun (r2 : Bool) =>
        .br (r2)
          (.ret (.bool false) [])
          (.stop (PName_4 a0 0)))
        (nd 4 <|
  .ret (.bool false) []))
      (nd 9 <|
  .ret (.bool false) []))
    (nd 13 <|
  .ret (.bool false) [])   : Tr SV) := by kernel_rfl
theorem PName_4_eq (x0 : List UInt8) (x1 : Int) : tree EV SV 4000 (.two (.two (.yes (.yes (.yes (.yes (.two (.yes (.yes (.yes .any))) (.no (.no (.no (.no .any))))))))) (.no (.no (.no (.no (.no (.no (.no (.no (.no .any)))))))))) .any) (PName_4 x0 x1) =
  (.br (decide (x1 < (↑x0.length : Int)))
    (.need (decide (0 ≤ x1) && decide (x1 < (↑x0.length : Int))) <|
    .call 158 [.int .u8 ((↑(x0.getD x1.toNat 0).toNat : Int))] [] fun (r0 : Bool) =>
    .br (!r0)
      (nd 2 <|
  .need (decide (0 ≤ x1) && decide (x1 < (↑x0.length : Int))) <|
      nd 1 <|
  .call 160 [.int .u8 ((↑(x0.getD x1.toNat 0).toNat : Int))] [] fun (r1 : Bool) =>
      nd 1 <|
  .br (!r1)
        (nd 2 <|
  .need (decide (0 ≤ x1) && decide (x1 < (↑x0.length : Int))) <|
        nd 1 <|
  .br (!(↑(x0.getD x1.toNat 0).toNat : Int) == 95)
          (.ret (.bool false) [])
          (.stop (PName_4 x0 (IntKind.i64.wrap (x1 + 1)))))
        (nd 5 <|
  .stop (PName_4 x0 (IntKind.i64.wrap (x1 + 1)))))
      (nd 11 <|
  .stop (PName_4 x0 (IntKind.i64.wrap (x1 + 1)))))
    (.ret (.bool true) [])   : Tr SV) := by kernel_rfl
noncomputable def PIn_0 (a0 : List (List UInt8)) (a1 : List UInt8) : Cfg T := entryC EV 116 [.sl .n9 a0 .no, .str a1] []
noncomputable def PIn_2 (x0 : List (List UInt8)) (x1 : List UInt8) (x2 : Int) : Cfg T := atCut EV 116 2 0 [(0, some (.sl .n9 x0 .no)), (1, some (.str x1)), (5, some (.int .i64 x2))] []
theorem PIn_0_eq (a0 : List (List UInt8)) (a1 : List UInt8) : tree EV SV 4000 .any (PIn_0 a0 a1) =
  (.stop (PIn_2 a0 a1 0)   : Tr SV) := by kernel_rfl
theorem PIn_2_eq (x0 : List (List UInt8)) (x1 : List UInt8) (x2 : Int) : tree EV SV 4000 .any (PIn_2 x0 x1 x2) =
  (.br (decide (x2 < (↑x0.length : Int)))
    (.need (decide (0 ≤ x2) && decide (x2 < (↑x0.length : Int))) <|
    .br (x0.getD x2.toNat [] == x1)
      (.ret (.bool true) [])
      (.stop (PIn_2 x0 x1 (IntKind.i64.wrap (x2 + 1)))))
    (.ret (.bool false) [])   : Tr SV) := by kernel_rfl
noncomputable def PKeys_0  : Cfg T := entryC EV 159 [] []
theorem PKeys_0_eq  : tree EV SV 4000 .any (PKeys_0 ) =
  (.ret (.sl .n9 ((((((((((((((((((((((((((((((((((List.replicate 33 []).set 0 ([102, 97, 99, 116] : List UInt8)).set 1 ([108, 105, 110, 101] : List UInt8)).set 2 ([97, 114, 116, 105, 99, 108, 101] : List UInt8)).set 3 ([102, 111, 114] : List UInt8)).set 4 ([114, 97, 110, 107] : List UInt8)).set 5 ([102, 114, 111, 109] : List UInt8)).set 6 ([116, 111] : List UInt8)).set 7 ([107, 110, 111, 119, 110] : List UInt8)).set 8 ([119, 104, 101, 110] : List UInt8)).set 9 ([117, 110, 108, 101, 115, 115] : List UInt8)).set 10 ([97, 109, 111, 117, 110, 116] : List UInt8)).set 11 ([116, 114, 117, 116, 104] : List UInt8)).set 12 ([110, 117, 109, 98, 101, 114] : List UInt8)).set 13 ([109, 105, 110, 117, 116, 101, 115] : List UInt8)).set 14 ([109, 105, 110] : List UInt8)).set 15 ([101, 97, 114, 110] : List UInt8)).set 16 ([100, 101, 100, 117, 99, 116] : List UInt8)).set 17 ([102, 108, 111, 111, 114] : List UInt8)).set 18 ([105, 110, 102, 111] : List UInt8)).set 19 ([111, 114] : List UInt8)).set 20 ([97, 110, 100] : List UInt8)).set 21 ([110, 111, 116] : List UInt8)).set 22 ([97, 116] : List UInt8)).set 23 ([116, 114, 117, 101] : List UInt8)).set 24 ([102, 97, 108, 115, 101] : List UInt8)).set 25 ([97, 114, 116] : List UInt8)).set 26 ([119, 101, 101, 107, 100, 97, 121] : List UInt8)).set 27 ([100, 97, 121] : List UInt8)).set 28 ([109, 111, 110, 116, 104] : List UInt8)).set 29 ([121, 101, 97, 114] : List UInt8)).set 30 ([108, 101, 97, 115, 116] : List UInt8)).set 31 ([103, 114, 101, 97, 116, 101, 115, 116] : List UInt8)).set 32 ([116, 97, 98, 108, 101] : List UInt8)) .no) []   : Tr SV) := by kernel_rfl
noncomputable def Lower_0 (a0 : Int) : Cfg T := entryC EV 158 [.int .u8 a0] []
theorem Lower_0_eq (a0 : Int) : tree EV SV 4000 (.two (.yes .any) (.no .any)) (Lower_0 a0) =
  (.br (decide (97 ≤ a0))
    (nd 1 <|
  .ret (.bool (decide (a0 ≤ 122))) [])
    (nd 2 <|
  .ret (.bool false) [])   : Tr SV) := by kernel_rfl
noncomputable def Digit_0 (a0 : Int) : Cfg T := entryC EV 160 [.int .u8 a0] []
theorem Digit_0_eq (a0 : Int) : tree EV SV 4000 (.two (.yes .any) (.no .any)) (Digit_0 a0) =
  (.br (decide (48 ≤ a0))
    (nd 1 <|
  .ret (.bool (decide (a0 ≤ 57))) [])
    (nd 2 <|
  .ret (.bool false) [])   : Tr SV) := by kernel_rfl
noncomputable def Upper_0 (a0 : Int) : Cfg T := entryC EV 166 [.int .u8 a0] []
theorem Upper_0_eq (a0 : Int) : tree EV SV 4000 (.two (.yes .any) (.no .any)) (Upper_0 a0) =
  (.br (decide (65 ≤ a0))
    (nd 1 <|
  .ret (.bool (decide (a0 ≤ 90))) [])
    (nd 2 <|
  .ret (.bool false) [])   : Tr SV) := by kernel_rfl
noncomputable def RUnit_0 (a0 : List UInt8) : Cfg T := entryC EV 108 [.str a0] []
theorem RUnit_0_eq (a0 : List UInt8) : tree EV SV 4000 (.two (.yes (.two (.yes (.two (.yes .any) (.no .any))) (.no (.no (.no .any))))) (.no (.no (.no (.no (.no .any)))))) (RUnit_0 a0) =
  (.br (!a0 == ([116, 114, 117, 116, 104] : List UInt8))
    (nd 1 <|
  .br (!a0 == ([110, 117, 109, 98, 101, 114] : List UInt8))
      (nd 1 <|
  .br (!a0 == ([109, 105, 110, 117, 116, 101, 115] : List UInt8))
        (nd 1 <|
  .call 115 [.str a0] [] fun (r0 : Bool) =>
        .ret (.bool r0) [])
        (nd 2 <|
  .ret (.bool true) []))
      (nd 5 <|
  .ret (.bool true) []))
    (nd 8 <|
  .ret (.bool true) [])   : Tr SV) := by kernel_rfl
noncomputable def PCur_0 (a0 : List UInt8) : Cfg T := entryC EV 115 [.str a0] []
theorem PCur_0_eq (a0 : List UInt8) : tree EV SV 4000 (.two (.yes (.yes (.two (.yes (.yes (.two (.yes (.yes .any)) (.no (.no .any))))) (.no (.no (.no (.no (.no .any)))))))) (.no (.no (.no (.no (.no (.no (.no (.no .any))))))))) (PCur_0 a0) =
  (.br ((↑a0.length : Int) == 3)
    (nd 1 <|
  .need (decide (0 ≤ 0) && decide (0 < (↑a0.length : Int))) <|
    nd 1 <|
  .call 166 [.int .u8 ((↑(a0.getD (Int.toNat 0) 0).toNat : Int))] [] fun (r0 : Bool) =>
    .br (r0)
      (nd 1 <|
  .need (decide (0 ≤ 1) && decide (1 < (↑a0.length : Int))) <|
      nd 1 <|
  .call 166 [.int .u8 ((↑(a0.getD (Int.toNat 1) 0).toNat : Int))] [] fun (r1 : Bool) =>
      .br (r1)
        (nd 1 <|
  .need (decide (0 ≤ 2) && decide (2 < (↑a0.length : Int))) <|
        nd 1 <|
  .call 166 [.int .u8 ((↑(a0.getD (Int.toNat 2) 0).toNat : Int))] [] fun (r2 : Bool) =>
        .ret (.bool r2) [])
        (nd 3 <|
  .ret (.bool false) []))
      (nd 7 <|
  .ret (.bool false) []))
    (nd 11 <|
  .ret (.bool false) [])   : Tr SV) := by kernel_rfl
noncomputable def RNumbered_0 (a0 : S31) (a1 : Int) : Cfg T := entryC EV 63 [.agg (encT .n31 a0), .int .i64 a1] []
noncomputable def RNumbered_2 (x0 : Int) (x1 : Int) (x2 : S31) : Cfg T := atCut EV 63 2 0 [(1, some (.int .i64 x0)), (2, some (.ptr 0 0)), (5, some (.int .i64 x1))] [.box 31 (encT .n31 x2)]
theorem RNumbered_0_eq (a0 : S31) (a1 : Int) : tree EV SV 4000 .any (RNumbered_0 a0 a1) =
  (nd 1 <|
  .stop (RNumbered_2 a1 0 a0)   : Tr SV) := by kernel_rfl
theorem RNumbered_2_eq (x0 : Int) (x1 : Int) (x2 : S31) : tree EV SV 4000 .any (RNumbered_2 x0 x1 x2) =
  (nd 1 <|
  .br (decide (x1 < (↑x2.f2.length : Int)))
    (nd 1 <|
  .need (decide (0 ≤ x1) && decide (x1 < (↑x2.f2.length : Int))) <|
    .br ((x2.f2.getD x1.toNat d62).f0 == x0)
      (.ret (.int .i64 x1) [])
      (.stop (RNumbered_2 x0 (IntKind.i64.wrap (x1 + 1)) x2)))
    (.ret (.int .i64 (-1)) [])   : Tr SV) := by kernel_rfl
noncomputable def RFits_0 (a0 : S31) (a1 : S60) : Cfg T := entryC EV 64 [.agg (encT .n31 a0), .agg (encT .n60 a1)] []
theorem RFits_0_eq (a0 : S31) (a1 : S60) : tree EV SV 4000 (.two (.yes (.yes .any)) (.no (.no .any))) (RFits_0 a0 a1) =
  (nd 3 <|
  .call 97 [.agg (encT .n60 a1)] [] fun (r0 : Bool) =>
  .br (r0)
    (nd 4 <|
  .call 109 [.agg (encT .n31 a0), .agg (encT .n60 a1)] [] fun (r1 : Bool) =>
    .ret (.bool r1) [])
    (nd 3 <|
  .ret (.bool false) [])   : Tr SV) := by kernel_rfl
noncomputable def RWithin_0 (a0 : S60) : Cfg T := entryC EV 97 [.agg (encT .n60 a0)] []
theorem RWithin_0_eq (a0 : S60) : tree EV SV 4000 (.two (.yes .any) (.no .any)) (RWithin_0 a0) =
  (nd 2 <|
  .call 79 [.agg (encT .n60 a0), .int .i64 400] [] fun (r0 : Bool) =>
  .br (r0)
    (nd 2 <|
  .call 155 [.agg (encT .n60 a0), .int .i64 40] [] fun (r1 : Bool) =>
    .ret (.bool r1) [])
    (nd 2 <|
  .ret (.bool false) [])   : Tr SV) := by kernel_rfl
noncomputable def RFlat_0 (a0 : S60) (a1 : Int) : Cfg T := entryC EV 155 [.agg (encT .n60 a0), .int .i64 a1] []
noncomputable def RFlat_4 (x0 : Int) (x1 : Int) (x2 : S60) : Cfg T := atCut EV 155 4 0 [(1, some (.int .i64 x0)), (2, some (.ptr 0 0)), (5, some (.int .i64 x1))] [.box 60 (encT .n60 x2)]
theorem RFlat_0_eq (a0 : S60) (a1 : Int) : tree EV SV 4000 .any (RFlat_0 a0 a1) =
  (nd 1 <|
  .br (decide (a1 < 1))
    (.ret (.bool false) [])
    (.stop (RFlat_4 a1 0 a0))   : Tr SV) := by kernel_rfl
theorem RFlat_4_eq (x0 : Int) (x1 : Int) (x2 : S60) : tree EV SV 4000 .any (RFlat_4 x0 x1 x2) =
  (nd 1 <|
  .br (decide (x1 < (↑x2.f4.length : Int)))
    (nd 1 <|
  .need (decide (0 ≤ x1) && decide (x1 < (↑x2.f4.length : Int))) <|
    .call 155 [.agg (encT .n60 (x2.f4.getD x1.toNat d60)), .int .i64 (IntKind.i64.wrap (x0 - 1))] [] fun (r0 : Bool) =>
    .br (!r0)
      (.ret (.bool false) [])
      (.stop (RFlat_4 x0 (IntKind.i64.wrap (x1 + 1)) x2)))
    (.ret (.bool true) [])   : Tr SV) := by kernel_rfl
noncomputable def Rfits_0 (a0 : S31) (a1 : S60) : Cfg T := entryC EV 109 [.agg (encT .n31 a0), .agg (encT .n60 a1)] []
noncomputable def Rfits_2 (x0 : Int) (x1 : S31) (x2 : S60) : Cfg T := atCut EV 109 2 0 [(2, some (.ptr 0 0)), (3, some (.ptr 1 0)), (5, some (.int .i64 x0))] [.box 31 (encT .n31 x1), .box 60 (encT .n60 x2)]
theorem Rfits_0_eq (a0 : S31) (a1 : S60) : tree EV SV 4000 .any (Rfits_0 a0 a1) =
  (nd 2 <|
  .stop (Rfits_2 0 a0 a1)   : Tr SV) := by kernel_rfl
noncomputable def Rfits_6 (x0 : S31) (x1 : S60) : Cfg T := atCut EV 109 6 0 [(2, some (.ptr 0 0)), (3, some (.ptr 1 0))] [.box 31 (encT .n31 x0), .box 60 (encT .n60 x1)]
theorem Rfits_2_eq (x0 : Int) (x1 : S31) (x2 : S60) : tree EV SV 4000 .any (Rfits_2 x0 x1 x2) =
  (nd 1 <|
  .br (decide (x0 < (↑x2.f4.length : Int)))
    (nd 2 <|
  .need (decide (0 ≤ x0) && decide (x0 < (↑x2.f4.length : Int))) <|
    .call 109 [.agg (encT .n31 x1), .agg (encT .n60 (x2.f4.getD x0.toNat d60))] [] fun (r0 : Bool) =>
    .br (!r0)
      (.ret (.bool false) [])
      (.stop (Rfits_2 (IntKind.i64.wrap (x0 + 1)) x1 x2)))
    (.stop (Rfits_6 x1 x2))   : Tr SV) := by kernel_rfl
noncomputable def Rfits_8 (x0 : S31) (x1 : S60) : Cfg T := atCut EV 109 8 0 [(2, some (.ptr 0 0)), (3, some (.ptr 1 0))] [.box 31 (encT .n31 x0), .box 60 (encT .n60 x1)]
theorem Rfits_6_eq (x0 : S31) (x1 : S60) : tree EV SV 4000 (.two (.yes (.yes (.two (.yes (.yes (.two (.yes (.yes (.two (.yes (.yes (.two (.yes (.yes (.yes (.two (.yes (.yes (.yes (.yes (.two (.yes (.yes (.yes (.yes (.yes (.yes .any)))))) (.no (.no (.no (.no (.yes (.yes (.yes .any)))))))))))) (.no (.no (.no (.no (.no (.yes (.no .any))))))))))) (.no (.no (.no (.no (.yes .any)))))))) (.no (.no (.yes (.yes (.yes (.yes (.two (.yes (.yes (.yes (.yes (.two (.yes (.yes (.yes (.yes (.yes (.yes .any)))))) (.no (.no (.no (.no (.yes (.yes (.yes .any)))))))))))) (.no (.no (.no (.no (.no (.yes (.no .any))))))))))))))))) (.no (.no (.no (.no (.no (.yes (.yes (.yes (.yes (.two (.yes (.yes (.yes (.yes (.two (.yes (.yes (.yes (.yes (.yes (.yes .any)))))) (.no (.no (.no (.no (.yes (.yes (.yes .any)))))))))))) (.no (.no (.no (.no (.no (.yes (.no .any)))))))))))))))))))) (.no (.no (.no (.no (.no (.no (.no (.no (.yes (.yes (.yes (.yes (.two (.yes (.yes (.yes (.yes (.two (.yes (.yes (.yes (.yes (.yes (.yes .any)))))) (.no (.no (.no (.no (.yes (.yes (.yes .any)))))))))))) (.no (.no (.no (.no (.no (.yes (.no .any))))))))))))))))))))))) (.no (.no (.no (.no (.no (.no (.no (.no (.no (.no (.no (.yes (.yes (.yes (.yes (.two (.yes (.yes (.yes (.yes (.two (.yes (.yes (.yes (.yes (.yes (.yes .any)))))) (.no (.no (.no (.no (.yes (.yes (.yes .any)))))))))))) (.no (.no (.no (.no (.no (.yes (.no .any)))))))))))))))))))))))) (Rfits_6 x0 x1) =
  (nd 1 <|
  .br (!x1.f0 == 1)
    (nd 3 <|
  .br (!x1.f0 == 2)
      (nd 3 <|
  .br (!x1.f0 == 3)
        (nd 3 <|
  .br (!x1.f0 == 4)
          (nd 3 <|
  .br (!!x1.f1 == 0)
            (nd 4 <|
  .br (!x1.f0 == 18)
              (nd 5 <|
  .br (!!x1.f3.f0 == 0)
                (nd 7 <|
  .br (!(↑x1.f3.f1.length : Int) == 0)
                  (.ret (.bool false) [])
                  (.stop (Rfits_8 x0 x1)))
                (nd 8 <|
  .ret (.bool false) []))
              (nd 8 <|
  .stop (Rfits_8 x0 x1)))
            (nd 6 <|
  .ret (.bool false) []))
          (nd 8 <|
  .br (!x1.f0 == 18)
            (nd 5 <|
  .br (!!x1.f3.f0 == 0)
              (nd 7 <|
  .br (!(↑x1.f3.f1.length : Int) == 0)
                (.ret (.bool false) [])
                (.stop (Rfits_8 x0 x1)))
              (nd 8 <|
  .ret (.bool false) []))
            (nd 8 <|
  .stop (Rfits_8 x0 x1))))
        (nd 12 <|
  .br (!x1.f0 == 18)
          (nd 5 <|
  .br (!!x1.f3.f0 == 0)
            (nd 7 <|
  .br (!(↑x1.f3.f1.length : Int) == 0)
              (.ret (.bool false) [])
              (.stop (Rfits_8 x0 x1)))
            (nd 8 <|
  .ret (.bool false) []))
          (nd 8 <|
  .stop (Rfits_8 x0 x1))))
      (nd 16 <|
  .br (!x1.f0 == 18)
        (nd 5 <|
  .br (!!x1.f3.f0 == 0)
          (nd 7 <|
  .br (!(↑x1.f3.f1.length : Int) == 0)
            (.ret (.bool false) [])
            (.stop (Rfits_8 x0 x1)))
          (nd 8 <|
  .ret (.bool false) []))
        (nd 8 <|
  .stop (Rfits_8 x0 x1))))
    (nd 20 <|
  .br (!x1.f0 == 18)
      (nd 5 <|
  .br (!!x1.f3.f0 == 0)
        (nd 7 <|
  .br (!(↑x1.f3.f1.length : Int) == 0)
          (.ret (.bool false) [])
          (.stop (Rfits_8 x0 x1)))
        (nd 8 <|
  .ret (.bool false) []))
      (nd 8 <|
  .stop (Rfits_8 x0 x1)))   : Tr SV) := by kernel_rfl
theorem Rfits_8_eq (x0 : S31) (x1 : S60) : tree EV SV 4000 (.two .any (.two (.two (.yes (.yes (.two (.yes (.yes (.yes (.yes (.yes (.two (.yes (.yes (.yes (.two (.yes (.yes (.yes (.yes (.yes (.yes (.yes (.yes (.yes (.two (.yes (.yes (.yes (.yes (.two (.yes (.yes (.yes .any))) (.no (.no (.yes .any)))))))) (.no (.no (.yes (.yes (.no (.no (.no (.yes .any)))))))))))))))))) (.no (.no (.no (.no (.no (.no (.no (.yes (.yes (.no (.no (.no (.yes (.yes (.no (.no (.no (.yes .any)))))))))))))))))))))) (.no (.no (.no (.no (.no (.no (.no (.no .any)))))))))))))) (.no (.no (.no (.no (.no (.yes (.yes (.yes (.yes (.two (.yes (.yes (.yes (.yes (.yes (.yes (.yes (.yes (.yes (.two (.yes (.yes (.yes (.yes (.two (.yes (.yes (.yes .any))) (.no (.no (.yes .any)))))))) (.no (.no (.yes (.yes (.no (.no (.no (.yes .any)))))))))))))))))) (.no (.no (.no (.no (.no (.no (.no (.yes (.yes (.no (.no (.no (.yes (.yes (.no (.no (.no (.yes .any))))))))))))))))))))))))))))))) (.no (.no (.no (.no (.no (.no (.no (.no (.yes (.yes (.yes (.yes (.two (.yes (.yes (.yes (.yes (.yes (.yes (.yes (.yes (.yes (.two (.yes (.yes (.yes (.yes (.two (.yes (.yes (.yes .any))) (.no (.no (.yes .any)))))))) (.no (.no (.yes (.yes (.no (.no (.no (.yes .any)))))))))))))))))) (.no (.no (.no (.no (.no (.no (.no (.yes (.yes (.no (.no (.no (.yes (.yes (.no (.no (.no (.yes .any)))))))))))))))))))))))))))))))) .any)) (Rfits_8 x0 x1) =
  (nd 1 <|
  .br ((↑x1.f4.length : Int) == 0)
    (nd 2 <|
  .call 161 [.agg (encT .n31 x0), .agg (encT .n60 x1)] [] fun (r0 : Bool) =>
    .ret (.bool r0) [])
    (.br ((↑x1.f4.length : Int) == 1)
      (nd 1 <|
  .br (x1.f0 == 5)
        (nd 3 <|
  .br (x1.f2 == ([116, 114, 117, 116, 104] : List UInt8))
          (nd 3 <|
  .need (decide (0 ≤ 0) && decide (0 < (↑x1.f4.length : Int))) <|
          nd 3 <|
  .br (!(x1.f4.getD (Int.toNat 0) d60).f2 == ([116, 114, 117, 116, 104] : List UInt8))
            (nd 4 <|
  .br (x1.f0 == 18)
              (nd 6 <|
  .need (decide (0 ≤ 0) && decide (0 < (↑x1.f4.length : Int))) <|
              nd 5 <|
  .br (x1.f2 == (x1.f4.getD (Int.toNat 0) d60).f2)
                (nd 3 <|
  .call 115 [.str x1.f2] [] fun (r0 : Bool) =>
                nd 2 <|
  .br (r0)
                  (nd 3 <|
  .call 162 [.agg (encT .n24 x1.f3)] [] fun (r1 : Bool) =>
                  nd 1 <|
  .ret (.bool r1) [])
                  (nd 4 <|
  .ret (.bool false) []))
                (nd 10 <|
  .ret (.bool false) []))
              (nd 21 <|
  .ret (.bool false) []))
            (nd 9 <|
  .ret (.bool true) []))
          (nd 11 <|
  .br (x1.f0 == 18)
            (nd 6 <|
  .need (decide (0 ≤ 0) && decide (0 < (↑x1.f4.length : Int))) <|
            nd 5 <|
  .br (x1.f2 == (x1.f4.getD (Int.toNat 0) d60).f2)
              (nd 3 <|
  .call 115 [.str x1.f2] [] fun (r0 : Bool) =>
              nd 2 <|
  .br (r0)
                (nd 3 <|
  .call 162 [.agg (encT .n24 x1.f3)] [] fun (r1 : Bool) =>
                nd 1 <|
  .ret (.bool r1) [])
                (nd 4 <|
  .ret (.bool false) []))
              (nd 10 <|
  .ret (.bool false) []))
            (nd 21 <|
  .ret (.bool false) [])))
        (nd 15 <|
  .br (x1.f0 == 18)
          (nd 6 <|
  .need (decide (0 ≤ 0) && decide (0 < (↑x1.f4.length : Int))) <|
          nd 5 <|
  .br (x1.f2 == (x1.f4.getD (Int.toNat 0) d60).f2)
            (nd 3 <|
  .call 115 [.str x1.f2] [] fun (r0 : Bool) =>
            nd 2 <|
  .br (r0)
              (nd 3 <|
  .call 162 [.agg (encT .n24 x1.f3)] [] fun (r1 : Bool) =>
              nd 1 <|
  .ret (.bool r1) [])
              (nd 4 <|
  .ret (.bool false) []))
            (nd 10 <|
  .ret (.bool false) []))
          (nd 21 <|
  .ret (.bool false) [])))
      (nd 1 <|
  .call 163 [.agg (encT .n60 x1)] [] fun (r0 : Bool) =>
      .ret (.bool r0) []))   : Tr SV) := by kernel_rfl
noncomputable def RLeaf_0 (a0 : S31) (a1 : S60) : Cfg T := entryC EV 161 [.agg (encT .n31 a0), .agg (encT .n60 a1)] []
theorem RLeaf_0_eq (a0 : S31) (a1 : S60) : tree EV SV 4000 (.two (.two (.yes (.yes (.two (.yes (.yes (.two (.yes (.yes (.yes (.two (.yes (.yes (.yes .any))) (.no (.no (.yes .any))))))) (.no (.no (.no (.no .any))))))) (.no (.no (.no (.no (.no (.no (.no .any)))))))))) (.no (.no (.no (.no (.no (.no (.no (.no (.no (.no .any))))))))))) (.two (.two (.yes (.yes (.yes (.yes (.yes (.two (.yes (.yes (.yes (.yes (.yes (.yes (.yes (.yes (.yes .any))))))))) (.no (.no (.no (.no (.no (.no (.no (.no (.no .any))))))))))))))) (.no (.no (.no (.no (.no (.no (.no (.no (.no (.no (.no (.no (.no (.no (.no .any)))))))))))))))) (.two (.two (.yes (.yes (.yes (.yes (.yes (.yes (.two (.yes (.yes (.yes (.yes (.yes (.yes (.yes (.yes (.yes (.two (.yes (.yes (.yes (.yes (.yes (.yes (.yes (.yes (.yes (.yes (.yes (.yes (.yes .any))))))))))))) (.no (.no (.no (.no (.no (.no (.no (.no (.no (.no (.no (.no (.no .any))))))))))))))))))))))) (.no (.no (.no (.no (.no (.no (.no (.no (.no (.no (.no (.no (.no (.no (.no (.no (.no (.no (.no (.no (.no (.no (.no .any)))))))))))))))))))))))))))))) (.no (.no (.no (.no (.no (.no (.no (.no (.no (.no (.no (.no (.no (.no (.no (.no (.no (.no (.no (.no (.no (.no (.no (.no (.no (.no (.no (.no (.no (.no .any))))))))))))))))))))))))))))))) (.two (.two (.yes (.yes (.two (.yes (.yes .any)) (.no (.no .any))))) (.no (.no (.no (.no (.no .any)))))) .any)))) (RLeaf_0 a0 a1) =
  (nd 3 <|
  .br (a1.f0 == 1)
    (nd 1 <|
  .call 108 [.str a1.f2] [] fun (r0 : Bool) =>
    .br (r0)
      (nd 3 <|
  .br (decide (0 ≤ a1.f1))
        (nd 3 <|
  .br (decide (a1.f1 ≤ 999999999999))
          (nd 4 <|
  .br (!!a1.f2 == ([116, 114, 117, 116, 104] : List UInt8))
            (nd 4 <|
  .ret (.bool (decide (a1.f1 ≤ 1))) [])
            (nd 4 <|
  .ret (.bool true) []))
          (nd 5 <|
  .ret (.bool false) []))
        (nd 9 <|
  .ret (.bool false) []))
      (nd 13 <|
  .ret (.bool false) []))
    (.br (a1.f0 == 2)
      (nd 1 <|
  .br (decide (0 ≤ a1.f1))
        (nd 7 <|
  .br (decide (a1.f1 < (↑a0.f0.length : Int)))
          (nd 9 <|
  .need (decide (0 ≤ a1.f1) && decide (a1.f1 < (↑a0.f0.length : Int))) <|
          nd 3 <|
  .ret (.bool (a1.f2 == (a0.f0.getD a1.f1.toNat d57).f1)) [])
          (nd 10 <|
  .ret (.bool false) []))
        (nd 17 <|
  .ret (.bool false) []))
      (.br (a1.f0 == 3)
        (nd 2 <|
  .call 63 [.agg (encT .n31 a0), .int .i64 a1.f1] [] fun (r0 : Int) =>
        .br (decide (0 ≤ r0))
          (nd 4 <|
  .need (decide (0 ≤ r0) && decide (r0 < (↑a0.f2.length : Int))) <|
          nd 3 <|
  .br (decide (0 ≤ (a0.f2.getD r0.toNat d62).f1))
            (nd 4 <|
  .need (decide (0 ≤ r0) && decide (r0 < (↑a0.f2.length : Int))) <|
            nd 7 <|
  .br (decide ((a0.f2.getD r0.toNat d62).f1 < (↑a0.f1.length : Int)))
              (nd 10 <|
  .need (decide (0 ≤ r0) && decide (r0 < (↑a0.f2.length : Int))) <|
              nd 3 <|
  .need (decide (0 ≤ (a0.f2.getD r0.toNat d62).f1) && decide ((a0.f2.getD r0.toNat d62).f1 < (↑a0.f1.length : Int))) <|
              nd 3 <|
  .ret (.bool (a1.f2 == (a0.f1.getD (a0.f2.getD r0.toNat d62).f1.toNat d57).f1)) [])
              (nd 14 <|
  .ret (.bool false) []))
            (nd 25 <|
  .ret (.bool false) []))
          (nd 33 <|
  .ret (.bool false) []))
        (.br (a1.f0 == 4)
          (nd 1 <|
  .br (decide (1 ≤ a1.f1))
            (nd 3 <|
  .br (decide (a1.f1 ≤ 4))
              (nd 3 <|
  .ret (.bool (a1.f2 == ([110, 117, 109, 98, 101, 114] : List UInt8))) [])
              (nd 3 <|
  .ret (.bool false) []))
            (nd 7 <|
  .ret (.bool false) []))
          (.ret (.bool false) []))))   : Tr SV) := by kernel_rfl
noncomputable def RMany_0 (a0 : S60) : Cfg T := entryC EV 163 [.agg (encT .n60 a0)] []
noncomputable def RMany_4 (x0 : List UInt8) (x1 : List UInt8) (x2 : Int) (x3 : S60) : Cfg T := atCut EV 163 4 0 [(1, some (.ptr 0 0)), (3, some (.str x0)), (4, some (.str x1)), (5, some (.int .i64 x2))] [.box 60 (encT .n60 x3)]
theorem RMany_0_eq (a0 : S60) : tree EV SV 4000 .any (RMany_0 a0) =
  (nd 2 <|
  .need (decide (0 ≤ 0) && decide (0 < (↑a0.f4.length : Int))) <|
  nd 1 <|
  .need (decide (0 ≤ 1) && decide (1 < (↑a0.f4.length : Int))) <|
  .stop (RMany_4 ((a0.f4.getD (Int.toNat 0) d60).f2) ((a0.f4.getD (Int.toNat 1) d60).f2) 0 a0)   : Tr SV) := by kernel_rfl
noncomputable def RMany_12 (x0 : List UInt8) (x1 : List UInt8) (x2 : S60) : Cfg T := atCut EV 163 12 0 [(1, some (.ptr 0 0)), (3, some (.str x0)), (4, some (.str x1))] [.box 60 (encT .n60 x2)]
theorem RMany_4_eq (x0 : List UInt8) (x1 : List UInt8) (x2 : Int) (x3 : S60) : tree EV SV 4000 (.two (.two (.yes (.yes (.two (.yes (.yes (.yes (.yes (.yes (.yes (.yes .any))))))) (.no (.no (.no (.no (.no (.no (.no (.no .any))))))))))) (.no (.no (.yes (.yes (.yes (.yes (.yes (.yes (.yes (.yes .any))))))))))) (.two (.yes (.yes (.two (.two (.yes (.yes (.yes .any))) (.no (.no (.no .any)))) .any))) (.no (.no (.yes (.two (.yes (.yes (.yes .any))) (.no (.no (.no .any))))))))) (RMany_4 x0 x1 x2 x3) =
  (nd 1 <|
  .br (decide (x2 < (↑x3.f4.length : Int)))
    (nd 1 <|
  .br (!x3.f0 == 16)
      (nd 3 <|
  .br (x3.f0 == 17)
        (nd 4 <|
  .need (decide (0 ≤ x2) && decide (x2 < (↑x3.f4.length : Int))) <|
        nd 4 <|
  .br (!(x3.f4.getD x2.toNat d60).f2 == x0)
          (.ret (.bool false) [])
          (.stop (RMany_4 x0 x1 (IntKind.i64.wrap (x2 + 1)) x3)))
        (nd 9 <|
  .stop (RMany_4 x0 x1 (IntKind.i64.wrap (x2 + 1)) x3)))
      (nd 8 <|
  .need (decide (0 ≤ x2) && decide (x2 < (↑x3.f4.length : Int))) <|
      nd 4 <|
  .br (!(x3.f4.getD x2.toNat d60).f2 == x0)
        (.ret (.bool false) [])
        (.stop (RMany_4 x0 x1 (IntKind.i64.wrap (x2 + 1)) x3))))
    (nd 1 <|
  .br (!x3.f0 == 16)
      (nd 3 <|
  .br (x3.f0 == 17)
        (.br (!x0 == ([116, 114, 117, 116, 104] : List UInt8))
          (nd 4 <|
  .ret (.bool (x3.f2 == x0)) [])
          (nd 4 <|
  .ret (.bool false) []))
        (nd 1 <|
  .br (!(↑x3.f4.length : Int) == 2)
          (.ret (.bool false) [])
          (.stop (RMany_12 x0 x1 x3))))
      (nd 4 <|
  .br (!x0 == ([116, 114, 117, 116, 104] : List UInt8))
        (nd 4 <|
  .ret (.bool (x3.f2 == x0)) [])
        (nd 4 <|
  .ret (.bool false) [])))   : Tr SV) := by kernel_rfl
theorem RMany_12_eq (x0 : List UInt8) (x1 : List UInt8) (x2 : S60) : tree EV SV 4000 (.two (.yes (.two (.yes (.two (.yes .any) (.no .any))) (.no (.no (.no .any))))) (.two (.two (.yes (.two (.yes .any) (.no .any))) (.no (.no (.no .any)))) (.two (.two (.yes (.yes .any)) (.no (.no .any))) (.two (.yes (.two (.yes (.yes (.two (.yes .any) (.no .any)))) (.no (.no (.no (.no .any)))))) (.two (.two (.yes (.yes (.two (.yes .any) (.no .any)))) (.no (.no (.no (.no .any))))) (.two (.yes (.two (.yes (.yes (.two (.yes .any) (.no .any)))) (.no (.no (.no (.no .any)))))) (.two (.two (.yes (.yes (.two (.yes .any) (.no .any)))) (.no (.no (.no (.no .any))))) (.two (.two (.yes (.two (.yes (.yes (.two (.yes (.yes (.yes (.yes (.yes (.two (.yes (.yes (.two (.yes (.yes (.yes (.yes (.yes .any))))) (.no (.no (.no (.yes (.yes .any)))))))) (.no (.no (.no (.yes .any)))))))))) (.no (.no (.no (.yes (.yes (.yes (.yes (.yes (.two (.yes (.yes (.yes (.yes (.yes .any))))) (.no (.no (.no (.yes (.yes .any))))))))))))))))) (.no (.no (.no (.no (.no .any))))))) (.no (.no (.no (.no (.no (.no (.no .any)))))))) (.two (.two (.yes (.two (.yes (.yes (.yes (.yes (.yes (.two (.yes (.two (.yes (.yes (.yes (.yes (.yes (.two (.yes (.yes (.yes (.yes (.yes .any))))) (.no (.no (.no (.no (.no .any))))))))))) (.no (.no (.no (.no (.no (.no (.no (.no (.no (.no (.no .any))))))))))))) (.no (.no (.no (.no (.no (.no (.no (.no (.no (.no (.no (.no (.no .any))))))))))))))))))) (.no (.no (.no (.no (.no (.no (.no (.no (.no (.no (.no (.no (.no (.no (.no (.no (.no (.no (.no .any))))))))))))))))))))) (.no (.no (.no (.no (.no (.no (.no (.no (.no (.no (.no (.no (.no (.no (.no (.no (.no (.no (.no (.no (.no .any)))))))))))))))))))))) (.two (.two (.yes (.two (.yes (.yes (.yes .any))) (.no (.no (.no .any))))) (.no (.no (.no (.no (.no .any)))))) .any)))))))))) (RMany_12 x0 x1 x2) =
  (nd 1 <|
  .br (x2.f0 == 6)
    (nd 2 <|
  .br (x2.f2 == ([116, 114, 117, 116, 104] : List UInt8))
      (nd 1 <|
  .br (x0 == ([116, 114, 117, 116, 104] : List UInt8))
        (nd 1 <|
  .ret (.bool (x1 == ([116, 114, 117, 116, 104] : List UInt8))) [])
        (nd 2 <|
  .ret (.bool false) []))
      (nd 5 <|
  .ret (.bool false) []))
    (.br (x2.f0 == 7)
      (nd 1 <|
  .br (x2.f2 == ([116, 114, 117, 116, 104] : List UInt8))
        (nd 1 <|
  .br (x0 == ([116, 114, 117, 116, 104] : List UInt8))
          (nd 1 <|
  .ret (.bool (x1 == ([116, 114, 117, 116, 104] : List UInt8))) [])
          (nd 2 <|
  .ret (.bool false) []))
        (nd 5 <|
  .ret (.bool false) []))
      (.br (x2.f0 == 8)
        (nd 1 <|
  .br (x2.f2 == ([116, 114, 117, 116, 104] : List UInt8))
          (nd 2 <|
  .ret (.bool (x0 == x1)) [])
          (nd 3 <|
  .ret (.bool false) []))
        (.br (x2.f0 == 9)
          (nd 2 <|
  .br (x2.f2 == ([116, 114, 117, 116, 104] : List UInt8))
            (nd 2 <|
  .br (x0 == x1)
              (nd 1 <|
  .ret (.bool (!x0 == ([116, 114, 117, 116, 104] : List UInt8))) [])
              (nd 2 <|
  .ret (.bool false) []))
            (nd 6 <|
  .ret (.bool false) []))
          (.br (x2.f0 == 10)
            (nd 1 <|
  .br (x2.f2 == ([116, 114, 117, 116, 104] : List UInt8))
              (nd 2 <|
  .br (x0 == x1)
                (nd 1 <|
  .ret (.bool (!x0 == ([116, 114, 117, 116, 104] : List UInt8))) [])
                (nd 2 <|
  .ret (.bool false) []))
              (nd 6 <|
  .ret (.bool false) []))
            (.br (x2.f0 == 11)
              (nd 2 <|
  .br (x2.f2 == x0)
                (nd 2 <|
  .br (x0 == x1)
                  (nd 1 <|
  .ret (.bool (!x0 == ([116, 114, 117, 116, 104] : List UInt8))) [])
                  (nd 2 <|
  .ret (.bool false) []))
                (nd 6 <|
  .ret (.bool false) []))
              (.br (x2.f0 == 12)
                (nd 1 <|
  .br (x2.f2 == x0)
                  (nd 2 <|
  .br (x0 == x1)
                    (nd 1 <|
  .ret (.bool (!x0 == ([116, 114, 117, 116, 104] : List UInt8))) [])
                    (nd 2 <|
  .ret (.bool false) []))
                  (nd 6 <|
  .ret (.bool false) []))
                (.br (x2.f0 == 13)
                  (.br (!x0 == ([116, 114, 117, 116, 104] : List UInt8))
                    (nd 1 <|
  .br (!x1 == ([116, 114, 117, 116, 104] : List UInt8))
                      (nd 2 <|
  .br (x0 == ([110, 117, 109, 98, 101, 114] : List UInt8))
                        (nd 6 <|
  .br (!x2.f2 == x1)
                          (nd 2 <|
  .br (x1 == ([110, 117, 109, 98, 101, 114] : List UInt8))
                            (nd 6 <|
  .ret (.bool (x2.f2 == x0)) [])
                            (nd 6 <|
  .ret (.bool false) []))
                          (nd 5 <|
  .ret (.bool true) []))
                        (nd 9 <|
  .br (x1 == ([110, 117, 109, 98, 101, 114] : List UInt8))
                          (nd 6 <|
  .ret (.bool (x2.f2 == x0)) [])
                          (nd 6 <|
  .ret (.bool false) [])))
                      (nd 6 <|
  .ret (.bool false) []))
                    (nd 9 <|
  .ret (.bool false) []))
                  (.br (x2.f0 == 14)
                    (nd 1 <|
  .br (x2.f2 == x0)
                      (nd 1 <|
  .br (!x0 == ([116, 114, 117, 116, 104] : List UInt8))
                        (nd 3 <|
  .need (decide (0 ≤ 1) && decide (1 < (↑x2.f4.length : Int))) <|
                        nd 3 <|
  .br ((x2.f4.getD (Int.toNat 1) d60).f0 == 1)
                          (nd 1 <|
  .br (x1 == ([110, 117, 109, 98, 101, 114] : List UInt8))
                            (nd 3 <|
  .need (decide (0 ≤ 1) && decide (1 < (↑x2.f4.length : Int))) <|
                            nd 3 <|
  .br (decide (1 ≤ (x2.f4.getD (Int.toNat 1) d60).f1))
                              (nd 3 <|
  .need (decide (0 ≤ 1) && decide (1 < (↑x2.f4.length : Int))) <|
                              nd 3 <|
  .ret (.bool (decide ((x2.f4.getD (Int.toNat 1) d60).f1 ≤ 1000000))) [])
                              (nd 6 <|
  .ret (.bool false) []))
                            (nd 13 <|
  .ret (.bool false) []))
                          (nd 16 <|
  .ret (.bool false) []))
                        (nd 23 <|
  .ret (.bool false) []))
                      (nd 26 <|
  .ret (.bool false) []))
                    (.br (x2.f0 == 15)
                      (.br (x0 == ([109, 105, 110, 117, 116, 101, 115] : List UInt8))
                        (nd 1 <|
  .call 115 [.str x1] [] fun (r0 : Bool) =>
                        .br (r0)
                          (nd 4 <|
  .ret (.bool (x2.f2 == x1)) [])
                          (nd 4 <|
  .ret (.bool false) []))
                        (nd 7 <|
  .ret (.bool false) []))
                      (.ret (.bool false) []))))))))))   : Tr SV) := by kernel_rfl
noncomputable def FValid_0 (a0 : S24) : Cfg T := entryC EV 162 [.agg (encT .n24 a0)] []
noncomputable def FValid_4 (x0 : Int) (x1 : S24) : Cfg T := atCut EV 162 4 0 [(1, some (.ptr 0 0)), (3, some (.int .i64 x0))] [.box 24 (encT .n24 x1)]
theorem FValid_0_eq (a0 : S24) : tree EV SV 4000 (.two (.yes (.yes (.two (.yes (.yes (.yes (.two (.yes (.yes (.yes .any))) (.no (.no (.no (.yes .any)))))))) (.no (.no (.no (.no (.no (.no (.no (.yes .any))))))))))) (.no (.no (.no (.no (.no (.no (.no (.no (.no (.no (.yes .any)))))))))))) (FValid_0 a0) =
  (nd 2 <|
  .br (!decide (a0.f0 < 1))
    (nd 3 <|
  .br (!decide (1000000 < a0.f0))
      (nd 4 <|
  .br (!decide ((↑a0.f1.length : Int) < 1))
        (nd 4 <|
  .br (decide (64 < (↑a0.f1.length : Int)))
          (.ret (.bool false) [])
          (.stop (FValid_4 0 a0)))
        (nd 5 <|
  .ret (.bool false) []))
      (nd 10 <|
  .ret (.bool false) []))
    (nd 14 <|
  .ret (.bool false) [])   : Tr SV) := by kernel_rfl
theorem FValid_4_eq (x0 : Int) (x1 : S24) : tree EV SV 4000 (.two (.two (.yes (.two (.yes (.yes (.two (.yes (.yes (.two (.yes (.yes (.yes (.two (.yes (.yes (.two (.yes (.yes (.yes (.yes (.yes (.yes (.yes (.yes (.yes (.yes .any)))))))))) (.no (.no (.no (.no (.no (.no (.no (.no (.no (.yes (.no .any)))))))))))))) (.no (.no (.no (.yes .any)))))))) (.no (.no (.yes (.yes (.yes (.yes (.two (.yes (.yes (.yes (.yes (.yes (.yes (.yes (.yes (.yes (.yes .any)))))))))) (.no (.no (.no (.no (.no (.no (.no (.no (.no (.yes (.no .any))))))))))))))))))))) (.no (.no (.no (.no (.no (.no (.no (.yes .any))))))))))) (.no (.no (.no (.no (.no (.no (.no (.no (.no (.no (.yes .any))))))))))))) (.no (.no (.no (.no (.no (.no (.no (.no (.no (.no (.no (.no (.yes .any)))))))))))))) .any) (FValid_4 x0 x1) =
  (nd 1 <|
  .br (decide (x0 < (↑x1.f1.length : Int)))
    (nd 1 <|
  .need (decide (0 ≤ x0) && decide (x0 < (↑x1.f1.length : Int))) <|
    nd 3 <|
  .call 190 [.int .i64 ((x1.f1.getD x0.toNat d158).f2), .int .i64 1000000] [] fun (r0 : Bool) =>
    nd 1 <|
  .call 190 [.int .i64 ((x1.f1.getD x0.toNat d158).f1), .int .i64 1000000000000000000] [] fun (r1 : Bool) =>
    .br (!!r0)
      (nd 1 <|
  .br (!!r1)
        (nd 3 <|
  .br (!decide (1000000000000 < (x1.f1.getD x0.toNat d158).f0))
          (nd 2 <|
  .br (x0 == 0)
            (nd 4 <|
  .br (!!(x1.f1.getD x0.toNat d158).f0 == 0)
              (nd 2 <|
  .br (decide (0 < x0))
                (nd 8 <|
  .need (decide (0 ≤ IntKind.i64.wrap (x0 - 1)) && decide (IntKind.i64.wrap (x0 - 1) < (↑x1.f1.length : Int))) <|
                nd 4 <|
  .br (decide ((x1.f1.getD x0.toNat d158).f0 ≤ (x1.f1.getD (IntKind.i64.wrap (x0 - 1)).toNat d158).f0))
                  (.ret (.bool false) [])
                  (.stop (FValid_4 (IntKind.i64.wrap (x0 + 1)) x1)))
                (nd 12 <|
  .stop (FValid_4 (IntKind.i64.wrap (x0 + 1)) x1)))
              (nd 5 <|
  .ret (.bool false) []))
            (nd 7 <|
  .br (decide (0 < x0))
              (nd 8 <|
  .need (decide (0 ≤ IntKind.i64.wrap (x0 - 1)) && decide (IntKind.i64.wrap (x0 - 1) < (↑x1.f1.length : Int))) <|
              nd 4 <|
  .br (decide ((x1.f1.getD x0.toNat d158).f0 ≤ (x1.f1.getD (IntKind.i64.wrap (x0 - 1)).toNat d158).f0))
                (.ret (.bool false) [])
                (.stop (FValid_4 (IntKind.i64.wrap (x0 + 1)) x1)))
              (nd 12 <|
  .stop (FValid_4 (IntKind.i64.wrap (x0 + 1)) x1))))
          (nd 10 <|
  .ret (.bool false) []))
        (nd 14 <|
  .ret (.bool false) []))
      (nd 17 <|
  .ret (.bool false) []))
    (.ret (.bool true) [])   : Tr SV) := by kernel_rfl
noncomputable def FWithin_0 (a0 : Int) (a1 : Int) : Cfg T := entryC EV 190 [.int .i64 a0, .int .i64 a1] []
theorem FWithin_0_eq (a0 : Int) (a1 : Int) : tree EV SV 4000 (.two (.yes (.yes .any)) (.no (.no .any))) (FWithin_0 a0 a1) =
  (.br (decide (IntKind.i64.wrap (0 - a1) ≤ a0))
    (nd 2 <|
  .ret (.bool (decide (a0 ≤ a1))) [])
    (nd 3 <|
  .ret (.bool false) [])   : Tr SV) := by kernel_rfl
noncomputable def QVRef_0 (s : List UInt8) : Cfg T := entryC EV 45 [.agg (encT .n27 ({ f0 := 12, f1 := s, f2 := [], f3 := 0, f4 := 0, f5 := 0, f6 := 0, f7 := d24, f8 := [], f9 := 0 : S27 }))] []
theorem QVRef_0_eq (s : List UInt8) : tree EV SVc 4000 (.two .any (.no .any)) (QVRef_0 s) =
  (nd 2 <|
  .call 80 [.agg (encT .n27 ({ f0 := 12, f1 := s, f2 := [], f3 := 0, f4 := 0, f5 := 0, f6 := 0, f7 := d24, f8 := [], f9 := 0 : S27 })), .int .i64 1] [] fun (r0 : Int) =>
  .br (decide (2000 < r0))
    (.ret (.bool false) [])
    (nd 3 <|
  .call 84 [.agg (encT .n27 ({ f0 := 12, f1 := s, f2 := [], f3 := 0, f4 := 0, f5 := 0, f6 := 0, f7 := d24, f8 := [], f9 := 0 : S27 }))] [] fun (r1 : Bool) =>
    .ret (.bool r1) [])   : Tr SVc) := by kernel_rfl
noncomputable def QCRef_0 (s : List UInt8) : Cfg T := entryC EV 80 [.agg (encT .n27 ({ f0 := 12, f1 := s, f2 := [], f3 := 0, f4 := 0, f5 := 0, f6 := 0, f7 := d24, f8 := [], f9 := 0 : S27 })), .int .i64 1] []
noncomputable def QCRef_5 (x0 : Int) (x1 : Int) (x2 : List S27) (x3 : Int) (x4 : Int) : Cfg T := atCut EV 80 5 0 [(1, some (.int .i64 x0)), (5, some (.int .i64 x1)), (11, some (.sl .n27 x2 .no)), (12, some (.int .i64 x3)), (13, some (.int .i64 x4))] []
theorem QCRef_0_eq (s : List UInt8) : tree EV SVc 4000 (.no .any) (QCRef_0 s) =
  (nd 3 <|
  .stop (QCRef_5 1 1 ({ f0 := 12, f1 := s, f2 := [], f3 := 0, f4 := 0, f5 := 0, f6 := 0, f7 := d24, f8 := [], f9 := 0 : S27 }.f8) ((↑{ f0 := 12, f1 := s, f2 := [], f3 := 0, f4 := 0, f5 := 0, f6 := 0, f7 := d24, f8 := [], f9 := 0 : S27 }.f8.length : Int)) 0)   : Tr SVc) := by kernel_rfl
theorem QCRef_5_eq (x0 : Int) (x1 : Int) (x2 : List S27) (x3 : Int) (x4 : Int) : tree EV SVc 4000 .any (QCRef_5 x0 x1 x2 x3 x4) =
  (.br (decide (x4 < x3))
    (.need (decide (0 ≤ x4) && decide (x4 < (↑x2.length : Int))) <|
    nd 3 <|
  .call 80 [.agg (encT .n27 (x2.getD x4.toNat d27)), .int .i64 (IntKind.i64.wrap (x0 + 1))] [] fun (r0 : Int) =>
    .br (decide (2000 < IntKind.i64.wrap (x1 + r0)))
      (.ret (.int .i64 (IntKind.i64.wrap (x1 + r0))) [])
      (.stop (QCRef_5 x0 (IntKind.i64.wrap (x1 + r0)) x2 x3 (IntKind.i64.wrap (x4 + 1)))))
    (.ret (.int .i64 x1) [])   : Tr SVc) := by kernel_rfl
noncomputable def QERef_0 (s : List UInt8) : Cfg T := entryC EV 84 [.agg (encT .n27 ({ f0 := 12, f1 := s, f2 := [], f3 := 0, f4 := 0, f5 := 0, f6 := 0, f7 := d24, f8 := [], f9 := 0 : S27 }))] []
theorem QERef_0_eq (s : List UInt8) : tree EV SVc 4000 (.no (.yes (.two (.yes (.yes (.yes (.yes (.yes (.yes .any)))))) (.no (.no (.no (.no (.no (.no .any))))))))) (QERef_0 s) =
  (nd 7 <|
  .call 81 [.agg (encT .n27 ({ f0 := 12, f1 := s, f2 := [], f3 := 0, f4 := 0, f5 := 0, f6 := 0, f7 := d24, f8 := [], f9 := 0 : S27 })), .agg [.int .i64 ({ f0 := 12, f1 := s, f2 := [], f3 := 0, f4 := 0, f5 := 0, f6 := 0, f7 := d24, f8 := [], f9 := 0 : S27 }.f0), .str ({ f0 := 12, f1 := s, f2 := [], f3 := 0, f4 := 0, f5 := 0, f6 := 0, f7 := d24, f8 := [], f9 := 0 : S27 }.f1), .str [], .int .i64 0, .int .i64 0, .int .i64 0, .int .i64 0, .int .i64 0, .sl .n158 [] .no, .sl .n27 [] .no, .int .i64 0]] [] fun (r0 : Bool) =>
  .br (r0)
    (nd 8 <|
  .call 135 [.str ({ f0 := 12, f1 := s, f2 := [], f3 := 0, f4 := 0, f5 := 0, f6 := 0, f7 := d24, f8 := [], f9 := 0 : S27 }.f1)] [] fun (r1 : Bool) =>
    .ret (.bool r1) [])
    (nd 8 <|
  .ret (.bool false) [])   : Tr SVc) := by kernel_rfl
noncomputable def QPRef_0 (s : List UInt8) : Cfg T := entryC EV 81 [.agg (encT .n27 ({ f0 := 12, f1 := s, f2 := [], f3 := 0, f4 := 0, f5 := 0, f6 := 0, f7 := d24, f8 := [], f9 := 0 : S27 })), .agg (encT .n27 ({ f0 := 12, f1 := s, f2 := [], f3 := 0, f4 := 0, f5 := 0, f6 := 0, f7 := d24, f8 := [], f9 := 0 : S27 }))] []
theorem QPRef_0_eq (s : List UInt8) : tree EV SVc 4000 (.two (.yes (.yes (.yes (.yes (.two (.yes (.yes (.yes (.yes (.two (.yes (.yes (.yes (.yes (.two (.yes (.yes (.yes (.yes (.two (.yes (.yes (.yes (.yes (.two (.yes (.yes (.yes (.yes (.two (.yes (.yes (.yes (.yes (.yes (.two (.yes (.yes (.yes (.yes (.yes .any))))) (.no (.no (.no (.no (.no .any))))))))))) (.no (.no (.no (.no (.no (.no (.no (.no (.no (.no (.no .any)))))))))))))))) (.no (.no (.no (.no (.no (.no (.no (.no (.no (.no (.no (.no (.no (.no (.no (.no .any))))))))))))))))))))) (.no (.no (.no (.no (.no (.no (.no (.no (.no (.no (.no (.no (.no (.no (.no (.no (.no (.no (.no (.no (.no .any)))))))))))))))))))))))))) (.no (.no (.no (.no (.no (.no (.no (.no (.no (.no (.no (.no (.no (.no (.no (.no (.no (.no (.no (.no (.no (.no (.no (.no (.no (.no .any))))))))))))))))))))))))))))))) (.no (.no (.no (.no (.no (.no (.no (.no (.no (.no (.no (.no (.no (.no (.no (.no (.no (.no (.no (.no (.no (.no (.no (.no (.no (.no (.no (.no (.no (.no (.no .any)))))))))))))))))))))))))))))))))))) (.no (.no (.no (.no (.no (.no (.no (.no (.no (.no (.no (.no (.no (.no (.no (.no (.no (.no (.no (.no (.no (.no (.no (.no (.no (.no (.no (.no (.no (.no (.no (.no (.no (.no (.no (.no .any))))))))))))))))))))))))))))))))))))))))) (.no (.no (.no (.no (.no (.no (.no (.no (.no (.no (.no (.no (.no (.no (.no (.no (.no (.no (.no (.no (.no (.no (.no (.no (.no (.no (.no (.no (.no (.no (.no (.no (.no (.no (.no (.no (.no (.no (.no (.no (.no .any)))))))))))))))))))))))))))))))))))))))))) (QPRef_0 s) =
  (nd 3 <|
  .call 131 [.agg (encT .n27 ({ f0 := 12, f1 := s, f2 := [], f3 := 0, f4 := 0, f5 := 0, f6 := 0, f7 := d24, f8 := [], f9 := 0 : S27 }))] [] fun (r0 : S27) =>
  nd 12 <|
  .br (r0.f0 == { f0 := 12, f1 := s, f2 := [], f3 := 0, f4 := 0, f5 := 0, f6 := 0, f7 := d24, f8 := [], f9 := 0 : S27 }.f0)
    (nd 6 <|
  .br (r0.f1 == { f0 := 12, f1 := s, f2 := [], f3 := 0, f4 := 0, f5 := 0, f6 := 0, f7 := d24, f8 := [], f9 := 0 : S27 }.f1)
      (nd 6 <|
  .br (r0.f2 == { f0 := 12, f1 := s, f2 := [], f3 := 0, f4 := 0, f5 := 0, f6 := 0, f7 := d24, f8 := [], f9 := 0 : S27 }.f2)
        (nd 6 <|
  .br (r0.f3 == { f0 := 12, f1 := s, f2 := [], f3 := 0, f4 := 0, f5 := 0, f6 := 0, f7 := d24, f8 := [], f9 := 0 : S27 }.f3)
          (nd 6 <|
  .br (r0.f4 == { f0 := 12, f1 := s, f2 := [], f3 := 0, f4 := 0, f5 := 0, f6 := 0, f7 := d24, f8 := [], f9 := 0 : S27 }.f4)
            (nd 6 <|
  .br (r0.f5 == { f0 := 12, f1 := s, f2 := [], f3 := 0, f4 := 0, f5 := 0, f6 := 0, f7 := d24, f8 := [], f9 := 0 : S27 }.f5)
              (nd 6 <|
  .br (r0.f6 == { f0 := 12, f1 := s, f2 := [], f3 := 0, f4 := 0, f5 := 0, f6 := 0, f7 := d24, f8 := [], f9 := 0 : S27 }.f6)
                (nd 7 <|
  .br (r0.f7.f0 == { f0 := 12, f1 := s, f2 := [], f3 := 0, f4 := 0, f5 := 0, f6 := 0, f7 := d24, f8 := [], f9 := 0 : S27 }.f7.f0)
                  (nd 7 <|
  .call 132 [.sl .n158 r0.f7.f1 .no, .sl .n158 ({ f0 := 12, f1 := s, f2 := [], f3 := 0, f4 := 0, f5 := 0, f6 := 0, f7 := d24, f8 := [], f9 := 0 : S27 }.f7.f1) .no] [] fun (r1 : Bool) =>
                  .ret (.bool r1) [])
                  (nd 6 <|
  .ret (.bool false) []))
                (nd 13 <|
  .ret (.bool false) []))
              (nd 19 <|
  .ret (.bool false) []))
            (nd 25 <|
  .ret (.bool false) []))
          (nd 31 <|
  .ret (.bool false) []))
        (nd 37 <|
  .ret (.bool false) []))
      (nd 43 <|
  .ret (.bool false) []))
    (nd 49 <|
  .ret (.bool false) [])   : Tr SVc) := by kernel_rfl
noncomputable def QBRef_0 (s : List UInt8) : Cfg T := entryC EV 131 [.agg (encT .n27 ({ f0 := 12, f1 := s, f2 := [], f3 := 0, f4 := 0, f5 := 0, f6 := 0, f7 := d24, f8 := [], f9 := 0 : S27 }))] []
theorem QBRef_0_eq (s : List UInt8) : tree EV SVc 4000 .any (QBRef_0 s) =
  (nd 6 <|
  .ret (.agg ([.int .i64 ({ f0 := 12, f1 := s, f2 := [], f3 := 0, f4 := 0, f5 := 0, f6 := 0, f7 := d24, f8 := [], f9 := 0 : S27 }.f0), .str ({ f0 := 12, f1 := s, f2 := [], f3 := 0, f4 := 0, f5 := 0, f6 := 0, f7 := d24, f8 := [], f9 := 0 : S27 }.f1), .str ({ f0 := 12, f1 := s, f2 := [], f3 := 0, f4 := 0, f5 := 0, f6 := 0, f7 := d24, f8 := [], f9 := 0 : S27 }.f2), .int .i64 ({ f0 := 12, f1 := s, f2 := [], f3 := 0, f4 := 0, f5 := 0, f6 := 0, f7 := d24, f8 := [], f9 := 0 : S27 }.f3), .int .i64 ({ f0 := 12, f1 := s, f2 := [], f3 := 0, f4 := 0, f5 := 0, f6 := 0, f7 := d24, f8 := [], f9 := 0 : S27 }.f4), .int .i64 ({ f0 := 12, f1 := s, f2 := [], f3 := 0, f4 := 0, f5 := 0, f6 := 0, f7 := d24, f8 := [], f9 := 0 : S27 }.f5), .int .i64 ({ f0 := 12, f1 := s, f2 := [], f3 := 0, f4 := 0, f5 := 0, f6 := 0, f7 := d24, f8 := [], f9 := 0 : S27 }.f6)] ++ encT .n24 ({ f0 := 12, f1 := s, f2 := [], f3 := 0, f4 := 0, f5 := 0, f6 := 0, f7 := d24, f8 := [], f9 := 0 : S27 }.f7) ++ [.sl .n27 [] .no, .int .i64 0])) []   : Tr SVc) := by kernel_rfl
noncomputable def QName_0 (a0 : List UInt8) : Cfg T := entryC EV 135 [.str a0] []
theorem QName_0_eq (a0 : List UInt8) : tree EV SVc 4000 (.two (.yes (.yes (.two (.yes (.yes (.two (.yes (.yes (.two (.yes (.yes (.two (.yes (.yes .any)) (.no (.no .any))))) (.no (.no (.no (.no (.no .any)))))))) (.no (.no (.no (.no (.no (.no (.no (.no .any))))))))))) (.no (.no (.no (.no (.no (.no (.no (.no (.no (.no (.no .any)))))))))))))) (.no (.no (.no (.no (.no (.no (.no (.no (.no (.no (.no (.no (.no (.no .any))))))))))))))) (QName_0 a0) =
  (.br (decide (0 < (↑a0.length : Int)))
    (nd 2 <|
  .br (decide ((↑a0.length : Int) ≤ 16))
      (nd 1 <|
  .need (decide (0 ≤ 0) && decide (0 < (↑a0.length : Int))) <|
      nd 1 <|
  .br (decide (97 ≤ (↑(a0.getD (Int.toNat 0) 0).toNat : Int)))
        (nd 1 <|
  .need (decide (0 ≤ 0) && decide (0 < (↑a0.length : Int))) <|
        nd 1 <|
  .br (decide ((↑(a0.getD (Int.toNat 0) 0).toNat : Int) ≤ 122))
          (nd 1 <|
  .call 180 [.str a0] [] fun (r0 : Bool) =>
          nd 1 <|
  .br (!r0)
            (nd 1 <|
  .call 181 [.str a0, .fn 182 [] []] [] fun (r1 : Bool) =>
            nd 1 <|
  .ret (.bool (!r1)) [])
            (nd 3 <|
  .ret (.bool false) []))
          (nd 7 <|
  .ret (.bool false) []))
        (nd 11 <|
  .ret (.bool false) []))
      (nd 15 <|
  .ret (.bool false) []))
    (nd 19 <|
  .ret (.bool false) [])   : Tr SVc) := by kernel_rfl
noncomputable def QKey_0 (a0 : List UInt8) : Cfg T := entryC EV 180 [.str a0] []
theorem QKey_0_eq (a0 : List UInt8) : tree EV SVc 4000 (.two (.yes .any) (.two (.yes .any) (.two (.yes .any) (.two (.yes .any) (.two (.yes .any) (.two (.yes .any) (.two (.yes .any) (.two (.yes .any) (.two (.yes .any) (.two (.yes .any) (.two (.yes .any) (.two (.yes .any) (.two (.yes .any) (.two (.yes .any) (.two (.yes .any) (.two (.yes .any) (.two (.yes .any) (.two (.yes .any) (.two .any (.two (.yes .any) (.two (.yes .any) (.two (.yes .any) (.two (.yes .any) (.two (.yes .any) (.two (.yes .any) (.two (.yes .any) (.two (.yes .any) (.two (.yes .any) (.two (.yes .any) (.two (.yes .any) (.two (.yes .any) (.two (.yes .any) .any)))))))))))))))))))))))))))))))) (QKey_0 a0) =
  (.br (a0 == ([102, 97, 99, 116] : List UInt8))
    (nd 1 <|
  .ret (.bool true) [])
    (.br (a0 == ([108, 105, 110, 101] : List UInt8))
      (nd 1 <|
  .ret (.bool true) [])
      (.br (a0 == ([97, 114, 116, 105, 99, 108, 101] : List UInt8))
        (nd 1 <|
  .ret (.bool true) [])
        (.br (a0 == ([102, 111, 114] : List UInt8))
          (nd 1 <|
  .ret (.bool true) [])
          (.br (a0 == ([114, 97, 110, 107] : List UInt8))
            (nd 1 <|
  .ret (.bool true) [])
            (.br (a0 == ([102, 114, 111, 109] : List UInt8))
              (nd 1 <|
  .ret (.bool true) [])
              (.br (a0 == ([116, 111] : List UInt8))
                (nd 1 <|
  .ret (.bool true) [])
                (.br (a0 == ([107, 110, 111, 119, 110] : List UInt8))
                  (nd 1 <|
  .ret (.bool true) [])
                  (.br (a0 == ([119, 104, 101, 110] : List UInt8))
                    (nd 1 <|
  .ret (.bool true) [])
                    (.br (a0 == ([117, 110, 108, 101, 115, 115] : List UInt8))
                      (nd 1 <|
  .ret (.bool true) [])
                      (.br (a0 == ([97, 109, 111, 117, 110, 116] : List UInt8))
                        (nd 1 <|
  .ret (.bool true) [])
                        (.br (a0 == ([116, 114, 117, 116, 104] : List UInt8))
                          (nd 1 <|
  .ret (.bool true) [])
                          (.br (a0 == ([110, 117, 109, 98, 101, 114] : List UInt8))
                            (nd 1 <|
  .ret (.bool true) [])
                            (.br (a0 == ([109, 105, 110, 117, 116, 101, 115] : List UInt8))
                              (nd 1 <|
  .ret (.bool true) [])
                              (.br (a0 == ([109, 105, 110] : List UInt8))
                                (nd 1 <|
  .ret (.bool true) [])
                                (.br (a0 == ([101, 97, 114, 110] : List UInt8))
                                  (nd 1 <|
  .ret (.bool true) [])
                                  (.br (a0 == ([100, 101, 100, 117, 99, 116] : List UInt8))
                                    (nd 1 <|
  .ret (.bool true) [])
                                    (.br (a0 == ([102, 108, 111, 111, 114] : List UInt8))
                                      (nd 1 <|
  .ret (.bool true) [])
                                      (.br (a0 == ([105, 110, 102, 111] : List UInt8))
                                        (.ret (.bool true) [])
                                        (.br (a0 == ([111, 114] : List UInt8))
                                          (nd 1 <|
  .ret (.bool true) [])
                                          (.br (a0 == ([97, 110, 100] : List UInt8))
                                            (nd 1 <|
  .ret (.bool true) [])
                                            (.br (a0 == ([110, 111, 116] : List UInt8))
                                              (nd 1 <|
  .ret (.bool true) [])
                                              (.br (a0 == ([97, 116] : List UInt8))
                                                (nd 1 <|
  .ret (.bool true) [])
                                                (.br (a0 == ([116, 114, 117, 101] : List UInt8))
                                                  (nd 1 <|
  .ret (.bool true) [])
                                                  (.br (a0 == ([102, 97, 108, 115, 101] : List UInt8))
                                                    (nd 1 <|
  .ret (.bool true) [])
                                                    (.br (a0 == ([97, 114, 116] : List UInt8))
                                                      (nd 1 <|
  .ret (.bool true) [])
                                                      (.br (a0 == ([119, 101, 101, 107, 100, 97, 121] : List UInt8))
                                                        (nd 1 <|
  .ret (.bool true) [])
                                                        (.br (a0 == ([100, 97, 121] : List UInt8))
                                                          (nd 1 <|
  .ret (.bool true) [])
                                                          (.br (a0 == ([109, 111, 110, 116, 104] : List UInt8))
                                                            (nd 1 <|
  .ret (.bool true) [])
                                                            (.br (a0 == ([121, 101, 97, 114] : List UInt8))
                                                              (nd 1 <|
  .ret (.bool true) [])
                                                              (.br (a0 == ([108, 101, 97, 115, 116] : List UInt8))
                                                                (nd 1 <|
  .ret (.bool true) [])
                                                                (.br (a0 == ([103, 114, 101, 97, 116, 101, 115, 116] : List UInt8))
                                                                  (nd 1 <|
  .ret (.bool true) [])
                                                                  (.br (a0 == ([116, 97, 98, 108, 101] : List UInt8))
                                                                    (.ret (.bool true) [])
                                                                    (.ret (.bool false) [])))))))))))))))))))))))))))))))))   : Tr SVc) := by kernel_rfl
noncomputable def QName1_0 (a0 : Int) : Cfg T := entryC EV 182 [.int .i32 a0] []
theorem QName1_0_eq (a0 : Int) : tree EV SVc 4000 (.two (.yes (.two (.yes (.yes (.two (.yes (.yes (.two (.yes .any) (.no .any)))) (.no (.yes (.yes (.yes .any))))))) (.no (.no (.no (.no (.no .any))))))) (.no (.yes (.yes (.yes (.two (.yes (.yes (.two (.yes .any) (.no .any)))) (.no (.yes (.yes (.yes .any)))))))))) (QName1_0 a0) =
  (.br (!decide (a0 < 97))
    (nd 1 <|
  .br (decide (122 < a0))
      (nd 2 <|
  .br (!decide (a0 < 48))
        (nd 2 <|
  .br (decide (57 < a0))
          (nd 1 <|
  .ret (.bool (!a0 == 95)) [])
          (nd 2 <|
  .ret (.bool false) []))
        (nd 5 <|
  .ret (.bool (!a0 == 95)) []))
      (nd 7 <|
  .ret (.bool false) []))
    (nd 5 <|
  .br (!decide (a0 < 48))
      (nd 2 <|
  .br (decide (57 < a0))
        (nd 1 <|
  .ret (.bool (!a0 == 95)) [])
        (nd 2 <|
  .ret (.bool false) []))
      (nd 5 <|
  .ret (.bool (!a0 == 95)) []))   : Tr SVc) := by kernel_rfl
noncomputable def SCF182_0 (s : List UInt8) : Cfg T := entryC EV 181 [.str s, .fn 182 [] []] []
theorem SCF182_0_eq (s : List UInt8) : tree EV SVc 4000 .any (SCF182_0 s) =
  (.call 207 [.str s, .fn 182 [] []] [] fun (r0 : Int) =>
  .ret (.bool (decide (0 ≤ r0))) []   : Tr SVc) := by kernel_rfl
noncomputable def SIF182_0 (s : List UInt8) : Cfg T := entryC EV 207 [.str s, .fn 182 [] []] []
theorem SIF182_0_eq (s : List UInt8) : tree EV SVc 4000 .any (SIF182_0 s) =
  (.call 225 [.str s, .fn 182 [] [], .bool true] [] fun (r0 : Int) =>
  .ret (.int .i64 r0) []   : Tr SVc) := by kernel_rfl
noncomputable def Sif182_0 (s : List UInt8) : Cfg T := entryC EV 225 [.str s, .fn 182 [] [], .bool true] []
noncomputable def Sif182_2 (x0 : Bool) (x1 : List UInt8) (x2 : Nat) : Cfg T := atCut EV 225 2 0 [(1, some (.fn 182 [] [])), (2, some (.bool x0)), (10, some (.itr 0))] [.iter x1 x2]
theorem Sif182_0_eq (s : List UInt8) : tree EV SVc 4000 .any (Sif182_0 s) =
  (nd 1 <|
  .stop (Sif182_2 true s 0)   : Tr SVc) := by kernel_rfl
theorem Sif182_2_eq (x0 : Bool) (x1 : List UInt8) (x2 : Nat) : tree EV SVc 4000 (.two (.yes .any) (.no .any)) (Sif182_2 x0 x1 x2) =
  (.br ((x2 + 1).ble x1.length)
    (nd 1 <|
  .call 182 [.int .i32 ((↑(Utf8.decode { data := { toList := x1 : Array UInt8 } : ByteArray } x2).fst : Int))] [] fun (r0 : Bool) =>
    .br (r0 == x0)
      (.ret (.int .i64 ((↑x2 : Int))) [])
      (.stop (Sif182_2 x0 x1 (x2 + (Utf8.decode { data := { toList := x1 : Array UInt8 } : ByteArray } x2).snd))))
    (nd 1 <|
  .ret (.int .i64 (-1)) [])   : Tr SVc) := by kernel_rfl
end Go.Proofs.YtnenfgpjedddoaaGreat.AI
