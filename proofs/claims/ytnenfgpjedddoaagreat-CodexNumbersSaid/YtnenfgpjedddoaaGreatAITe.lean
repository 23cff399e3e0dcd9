/- Decision trees of functions: written by a program of mine (aigen.py), proved by the kernel's own computation. -/
import Derived.Test.YtnenfgpjedddoaaGreatAISay
import Derived.Test.YtnenfgpjedddoaaGreatAITc
set_option maxRecDepth 100000
set_option linter.unusedVariables false
namespace Go.Proofs.YtnenfgpjedddoaaGreat.AI
open Go
noncomputable def CSize_0 (a0 : S60) (a1 : Int) : Cfg T := entryC EV 93 [.agg (encT .n60 a0), .int .i64 a1] []
noncomputable def CSize_5 (x0 : Int) (x1 : Int) (x2 : List S60) (x3 : Int) (x4 : Int) : Cfg T := atCut EV 93 5 0 [(1, some (.int .i64 x0)), (5, some (.int .i64 x1)), (11, some (.sl .n60 x2 .no)), (12, some (.int .i64 x3)), (13, some (.int .i64 x4))] []
theorem CSize_0_eq (a0 : S60) (a1 : Int) : tree EV SVc 4000 .any (CSize_0 a0 a1) =
  (nd 1 <|
  .br (decide (40 < a1))
    (.ret (.int .i64 401) [])
    (nd 1 <|
  .stop (CSize_5 a1 1 a0.f4 ((↑a0.f4.length : Int)) 0))   : Tr SVc) := by kernel_rfl
theorem CSize_5_eq (x0 : Int) (x1 : Int) (x2 : List S60) (x3 : Int) (x4 : Int) : tree EV SVc 4000 .any (CSize_5 x0 x1 x2 x3 x4) =
  (.br (decide (x4 < x3))
    (.need (decide (0 ≤ x4) && decide (x4 < (↑x2.length : Int))) <|
    nd 3 <|
  .call 93 [.agg (encT .n60 (x2.getD x4.toNat d60)), .int .i64 (IntKind.i64.wrap (x0 + 1))] [] fun (r0 : Int) =>
    .br (decide (400 < IntKind.i64.wrap (x1 + r0)))
      (.ret (.int .i64 (IntKind.i64.wrap (x1 + r0))) [])
      (.stop (CSize_5 x0 (IntKind.i64.wrap (x1 + r0)) x2 x3 (IntKind.i64.wrap (x4 + 1)))))
    (.ret (.int .i64 x1) [])   : Tr SVc) := by kernel_rfl
noncomputable def CFrom_0 (a0 : Int) (a1 : Int) (a2 : Int) : Cfg T := entryC EV 105 [.int .i64 a0, .int .i64 a1, .int .i64 a2] []
theorem CFrom_0_eq (a0 : Int) (a1 : Int) (a2 : Int) : tree EV SVc 4000 (.two (.yes (.yes .any)) (.no (.no .any))) (CFrom_0 a0 a1 a2) =
  (.br (decide (a0 ≤ a1))
    (nd 2 <|
  .ret (.bool (decide (a1 ≤ a2))) [])
    (nd 3 <|
  .ret (.bool false) [])   : Tr SVc) := by kernel_rfl
noncomputable def CCur_0 (a0 : List UInt8) : Cfg T := entryC EV 156 [.str a0] []
theorem CCur_0_eq (a0 : List UInt8) : tree EV SVc 4000 (.two (.yes (.yes .any)) (.no (.no .any))) (CCur_0 a0) =
  (.br ((↑a0.length : Int) == 3)
    (nd 1 <|
  .call 181 [.str a0, .fn 187 [] []] [] fun (r0 : Bool) =>
    nd 1 <|
  .ret (.bool (!r0)) [])
    (nd 3 <|
  .ret (.bool false) [])   : Tr SVc) := by kernel_rfl
noncomputable def CCur1_0 (a0 : Int) : Cfg T := entryC EV 187 [.int .i32 a0] []
theorem CCur1_0_eq (a0 : Int) : tree EV SVc 4000 (.two (.yes .any) (.no .any)) (CCur1_0 a0) =
  (.br (!decide (a0 < 65))
    (nd 1 <|
  .ret (.bool (decide (90 < a0))) [])
    (nd 2 <|
  .ret (.bool true) [])   : Tr SVc) := by kernel_rfl
noncomputable def CUnit_0 (a0 : List UInt8) : Cfg T := entryC EV 103 [.str a0] []
theorem CUnit_0_eq (a0 : List UInt8) : tree EV SVc 4000 (.two (.yes (.two (.yes (.two (.yes .any) (.no .any))) (.no (.no (.no .any))))) (.no (.no (.no (.no (.no .any)))))) (CUnit_0 a0) =
  (.br (!a0 == ([116, 114, 117, 116, 104] : List UInt8))
    (nd 1 <|
  .br (!a0 == ([110, 117, 109, 98, 101, 114] : List UInt8))
      (nd 1 <|
  .br (!a0 == ([109, 105, 110, 117, 116, 101, 115] : List UInt8))
        (nd 1 <|
  .call 156 [.str a0] [] fun (r0 : Bool) =>
        .ret (.bool r0) [])
        (nd 2 <|
  .ret (.bool true) []))
      (nd 5 <|
  .ret (.bool true) []))
    (nd 8 <|
  .ret (.bool true) [])   : Tr SVc) := by kernel_rfl
noncomputable def SCF187_0 (s : List UInt8) : Cfg T := entryC EV 181 [.str s, .fn 187 [] []] []
theorem SCF187_0_eq (s : List UInt8) : tree EV SVc 4000 .any (SCF187_0 s) =
  (.call 207 [.str s, .fn 187 [] []] [] fun (r0 : Int) =>
  .ret (.bool (decide (0 ≤ r0))) []   : Tr SVc) := by kernel_rfl
noncomputable def SIF187_0 (s : List UInt8) : Cfg T := entryC EV 207 [.str s, .fn 187 [] []] []
theorem SIF187_0_eq (s : List UInt8) : tree EV SVc 4000 .any (SIF187_0 s) =
  (.call 225 [.str s, .fn 187 [] [], .bool true] [] fun (r0 : Int) =>
  .ret (.int .i64 r0) []   : Tr SVc) := by kernel_rfl
noncomputable def Sif187_0 (s : List UInt8) : Cfg T := entryC EV 225 [.str s, .fn 187 [] [], .bool true] []
noncomputable def Sif187_2 (x0 : Bool) (x1 : List UInt8) (x2 : Nat) : Cfg T := atCut EV 225 2 0 [(1, some (.fn 187 [] [])), (2, some (.bool x0)), (10, some (.itr 0))] [.iter x1 x2]
theorem Sif187_0_eq (s : List UInt8) : tree EV SVc 4000 .any (Sif187_0 s) =
  (nd 1 <|
  .stop (Sif187_2 true s 0)   : Tr SVc) := by kernel_rfl
theorem Sif187_2_eq (x0 : Bool) (x1 : List UInt8) (x2 : Nat) : tree EV SVc 4000 (.two (.yes .any) (.no .any)) (Sif187_2 x0 x1 x2) =
  (.br ((x2 + 1).ble x1.length)
    (nd 1 <|
  .call 187 [.int .i32 ((↑(Utf8.decode { data := { toList := x1 : Array UInt8 } : ByteArray } x2).fst : Int))] [] fun (r0 : Bool) =>
    .br (r0 == x0)
      (.ret (.int .i64 ((↑x2 : Int))) [])
      (.stop (Sif187_2 x0 x1 (x2 + (Utf8.decode { data := { toList := x1 : Array UInt8 } : ByteArray } x2).snd))))
    (nd 1 <|
  .ret (.int .i64 (-1)) [])   : Tr SVc) := by kernel_rfl
noncomputable def PValid_0 (a0 : S24) : Cfg T := entryC EV 213 [.agg (encT .n24 a0)] []
noncomputable def PValid_5 (x0 : Int) (x1 : List S158) (x2 : Int) (x3 : Int) : Cfg T := atCut EV 213 5 0 [(3, some (.int .i64 x0)), (35, some (.sl .n158 x1 .no)), (36, some (.int .i64 x2)), (37, some (.int .i64 x3))] []
theorem PValid_0_eq (a0 : S24) : tree EV SVc 4000 (.two (.yes (.yes (.two (.yes (.yes (.yes (.two (.yes (.yes (.yes (.two (.yes (.yes (.yes (.yes (.yes .any))))) (.no (.no (.no (.no (.no (.yes .any)))))))))) (.no (.no (.no (.no (.no (.no (.no (.no (.no (.yes .any)))))))))))))) (.no (.no (.no (.no (.no (.no (.no (.no (.no (.no (.no (.no (.no (.yes .any))))))))))))))))) (.no (.no (.no (.no (.no (.no (.no (.no (.no (.no (.no (.no (.no (.no (.no (.no (.yes .any)))))))))))))))))) (PValid_0 a0) =
  (nd 2 <|
  .br (!decide (a0.f0 < 1))
    (nd 3 <|
  .br (!decide (1000000 < a0.f0))
      (nd 4 <|
  .br (!decide ((↑a0.f1.length : Int) < 1))
        (nd 4 <|
  .br (!decide (64 < (↑a0.f1.length : Int)))
          (nd 3 <|
  .need (decide (0 ≤ 0) && decide (0 < (↑a0.f1.length : Int))) <|
          nd 3 <|
  .br (!(a0.f1.getD (Int.toNat 0) d158).f0 == 0)
            (.ret (.bool false) [])
            (nd 1 <|
  .stop (PValid_5 (-1) a0.f1 ((↑a0.f1.length : Int)) 0)))
          (nd 7 <|
  .ret (.bool false) []))
        (nd 12 <|
  .ret (.bool false) []))
      (nd 17 <|
  .ret (.bool false) []))
    (nd 21 <|
  .ret (.bool false) [])   : Tr SVc) := by kernel_rfl
theorem PValid_5_eq (x0 : Int) (x1 : List S158) (x2 : Int) (x3 : Int) : tree EV SVc 4000 (.two (.two (.yes (.yes (.two (.yes (.yes (.yes (.two (.yes (.yes (.yes .any))) (.no (.no (.no (.yes .any)))))))) (.no (.no (.no (.no (.no (.no (.no (.yes .any))))))))))) (.no (.no (.no (.no (.no (.no (.no (.no (.no (.no (.yes .any)))))))))))) .any) (PValid_5 x0 x1 x2 x3) =
  (.br (decide (x3 < x2))
    (.need (decide (0 ≤ x3) && decide (x3 < (↑x1.length : Int))) <|
    nd 3 <|
  .br (!decide ((x1.getD x3.toNat d158).f0 ≤ x0))
      (nd 3 <|
  .br (!decide (1000000000000 < (x1.getD x3.toNat d158).f0))
        (nd 3 <|
  .call 230 [.int .i64 ((x1.getD x3.toNat d158).f2), .int .i64 1000000] [] fun (r0 : Bool) =>
        nd 1 <|
  .br (!!r0)
          (nd 3 <|
  .call 230 [.int .i64 ((x1.getD x3.toNat d158).f1), .int .i64 1000000000000000000] [] fun (r1 : Bool) =>
          nd 1 <|
  .br (!r1)
            (.ret (.bool false) [])
            (nd 1 <|
  .stop (PValid_5 ((x1.getD x3.toNat d158).f0) x1 x2 (IntKind.i64.wrap (x3 + 1)))))
          (nd 5 <|
  .ret (.bool false) []))
        (nd 10 <|
  .ret (.bool false) []))
      (nd 14 <|
  .ret (.bool false) []))
    (.ret (.bool true) [])   : Tr SVc) := by kernel_rfl
noncomputable def PWithin_0 (a0 : Int) (a1 : Int) : Cfg T := entryC EV 230 [.int .i64 a0, .int .i64 a1] []
theorem PWithin_0_eq (a0 : Int) (a1 : Int) : tree EV SVc 4000 (.two (.yes (.yes .any)) (.no (.no .any))) (PWithin_0 a0 a1) =
  (.br (decide (IntKind.i64.wrap (0 - a1) ≤ a0))
    (nd 2 <|
  .ret (.bool (decide (a0 ≤ a1))) [])
    (nd 3 <|
  .ret (.bool false) [])   : Tr SVc) := by kernel_rfl
noncomputable def COperands_0 (a0 : S60) : Cfg T := entryC EV 189 [.agg (encT .n60 a0)] []
noncomputable def COperands_7 (x0 : Bool) (x1 : Bool) (x2 : Bool) (x3 : Bool) (x4 : S60) (x5 : S60) (x6 : S60) : Cfg T := atCut EV 189 7 0 [(1, some (.ptr 0 0)), (3, some (.ptr 1 0)), (4, some (.ptr 2 0)), (5, some (.bool x0)), (6, some (.bool x1)), (7, some (.bool x2)), (8, some (.bool x3))] [.box 60 (encT .n60 x4), .box 60 (encT .n60 x5), .box 60 (encT .n60 x6)]
theorem COperands_0_eq (a0 : S60) : tree EV SVd 4000 (.two .any (.two (.yes (.yes .any)) (.no (.no .any)))) (COperands_0 a0) =
  (nd 2 <|
  .br ((↑a0.f4.length : Int) == 0)
    (.ret (.bool false) [])
    (nd 1 <|
  .need (decide (0 ≤ 0) && decide (0 < (↑a0.f4.length : Int))) <|
    nd 2 <|
  .need (decide (0 ≤ IntKind.i64.wrap ((↑a0.f4.length : Int) - 1)) && decide (IntKind.i64.wrap ((↑a0.f4.length : Int) - 1) < (↑a0.f4.length : Int))) <|
    nd 7 <|
  .call 110 [.sl .n60 a0.f4 .no, .fn 212 [] [.ptr 0 0]] [.box 60 (encT .n60 (a0.f4.getD (Int.toNat 0) d60))] fun (r0 : Bool × S60) =>
    nd 1 <|
  .br (!r0.snd.f2 == ([116, 114, 117, 116, 104] : List UInt8))
      (nd 3 <|
  .stop (COperands_7 ((↑a0.f4.length : Int) == 2) (a0.f2 == ([116, 114, 117, 116, 104] : List UInt8)) (!r0.fst) (!(a0.f4.getD (IntKind.i64.wrap ((↑a0.f4.length : Int) - 1)).toNat d60).f2 == ([116, 114, 117, 116, 104] : List UInt8)) a0 r0.snd (a0.f4.getD (IntKind.i64.wrap ((↑a0.f4.length : Int) - 1)).toNat d60)))
      (nd 3 <|
  .stop (COperands_7 ((↑a0.f4.length : Int) == 2) (a0.f2 == ([116, 114, 117, 116, 104] : List UInt8)) (!r0.fst) false a0 r0.snd (a0.f4.getD (IntKind.i64.wrap ((↑a0.f4.length : Int) - 1)).toNat d60))))   : Tr SVd) := by kernel_rfl
theorem COperands_7_eq (x0 : Bool) (x1 : Bool) (x2 : Bool) (x3 : Bool) (x4 : S60) (x5 : S60) (x6 : S60) : tree EV SVd 4000 (.two (.two (.two (.yes (.yes .any)) (.no (.no .any))) (.no (.no (.no .any)))) (.two (.yes (.two (.two (.two (.yes (.yes .any)) (.no (.no .any))) (.no (.no (.no .any)))) (.no (.no (.no (.no .any)))))) (.two (.two (.two (.two (.yes (.yes .any)) (.no (.no .any))) (.no (.no (.no .any)))) (.no (.no (.no (.no .any))))) (.two (.two .any (.no .any)) (.two (.yes (.two (.two .any (.no .any)) (.no (.no .any)))) (.two (.two (.two .any (.no .any)) (.no (.no .any))) (.two (.yes (.two (.two (.two (.yes (.yes (.yes (.yes .any)))) (.no (.no (.no (.no .any))))) (.no (.no (.no (.no (.no .any)))))) (.no (.no (.no (.no (.no (.no .any)))))))) (.two (.two (.two (.two (.yes (.yes (.yes (.yes .any)))) (.no (.no (.no (.no .any))))) (.no (.no (.no (.no (.no .any)))))) (.no (.no (.no (.no (.no (.no .any))))))) (.two (.two (.two (.yes (.yes (.yes (.two (.yes (.yes (.yes (.yes (.yes (.yes (.two (.yes (.yes (.yes (.two (.yes (.yes (.yes (.yes (.yes (.yes .any)))))) (.no (.no (.no (.no (.yes (.yes .any)))))))))) (.no (.no (.no (.no (.yes .any)))))))))))) (.no (.no (.no (.no (.yes (.yes (.yes (.yes (.yes (.yes (.two (.yes (.yes (.yes (.yes (.yes (.yes .any)))))) (.no (.no (.no (.no (.yes (.yes .any))))))))))))))))))))) (.no (.no (.no (.no (.no (.no .any))))))) (.no (.no (.no (.no (.no (.no (.no .any)))))))) (.two (.two (.two (.yes (.yes (.yes (.yes (.two (.yes (.yes (.two (.yes (.yes (.two (.yes (.yes .any)) (.no (.no .any))))) (.no (.no (.no (.no (.no .any)))))))) (.no (.no (.no (.no (.no (.no (.no (.no .any))))))))))))) (.no (.no (.no (.no (.no (.no (.no (.no (.no (.no (.no (.no (.no .any)))))))))))))) (.no (.no (.no (.no (.no (.no (.no (.no (.no (.no (.no (.no (.no (.no .any))))))))))))))) (.two (.two (.yes (.yes (.two (.yes (.yes (.two (.yes (.yes (.yes (.yes .any)))) (.no (.no (.no (.no .any))))))) (.no (.no (.no (.no (.no (.no (.no .any)))))))))) (.no (.no (.no (.no (.no (.no (.no (.no (.no (.no .any))))))))))) (.two (.yes (.two (.two (.two (.yes (.yes (.yes (.yes .any)))) (.no (.no (.no (.no .any))))) (.no (.no (.no (.no (.no .any)))))) (.no (.no (.no (.no (.no (.no .any)))))))) (.two (.two (.two (.two (.yes (.yes (.yes (.yes .any)))) (.no (.no (.no (.no .any))))) (.no (.no (.no (.no (.no .any)))))) (.no (.no (.no (.no (.no (.no .any))))))) (.two (.two (.yes (.yes (.two (.yes (.yes (.yes (.yes (.two (.yes (.yes .any)) (.no (.no .any))))))) (.no (.no (.no (.no (.no (.no (.no .any)))))))))) (.no (.no (.no (.no (.no (.no (.no (.no (.no (.no .any))))))))))) .any)))))))))))))) (COperands_7 x0 x1 x2 x3 x4 x5 x6) =
  (nd 1 <|
  .br (x4.f0 == 5)
    (nd 1 <|
  .br ((↑x4.f4.length : Int) == 1)
      (.br (x1)
        (nd 3 <|
  .ret (.bool (x5.f2 == ([116, 114, 117, 116, 104] : List UInt8))) [])
        (nd 3 <|
  .ret (.bool false) []))
      (nd 5 <|
  .ret (.bool false) []))
    (.br (x4.f0 == 6)
      (nd 1 <|
  .br (x0)
        (.br (x1)
          (.br (x2)
            (nd 3 <|
  .ret (.bool (x5.f2 == ([116, 114, 117, 116, 104] : List UInt8))) [])
            (nd 3 <|
  .ret (.bool false) []))
          (nd 5 <|
  .ret (.bool false) []))
        (nd 7 <|
  .ret (.bool false) []))
      (.br (x4.f0 == 7)
        (.br (x0)
          (.br (x1)
            (.br (x2)
              (nd 3 <|
  .ret (.bool (x5.f2 == ([116, 114, 117, 116, 104] : List UInt8))) [])
              (nd 3 <|
  .ret (.bool false) []))
            (nd 5 <|
  .ret (.bool false) []))
          (nd 7 <|
  .ret (.bool false) []))
        (.br (x4.f0 == 8)
          (.br (x0)
            (.br (x1)
              (.ret (.bool x2) [])
              (nd 1 <|
  .ret (.bool false) []))
            (nd 3 <|
  .ret (.bool false) []))
          (.br (x4.f0 == 9)
            (nd 1 <|
  .br (x0)
              (.br (x1)
                (.br (x2)
                  (.ret (.bool x3) [])
                  (nd 1 <|
  .ret (.bool false) []))
                (nd 3 <|
  .ret (.bool false) []))
              (nd 5 <|
  .ret (.bool false) []))
            (.br (x4.f0 == 10)
              (.br (x0)
                (.br (x1)
                  (.br (x2)
                    (.ret (.bool x3) [])
                    (nd 1 <|
  .ret (.bool false) []))
                  (nd 3 <|
  .ret (.bool false) []))
                (nd 5 <|
  .ret (.bool false) []))
              (.br (x4.f0 == 11)
                (nd 1 <|
  .br (x0)
                  (.br (x2)
                    (.br (x3)
                      (nd 6 <|
  .ret (.bool (x4.f2 == x5.f2)) [])
                      (nd 5 <|
  .ret (.bool false) []))
                    (nd 7 <|
  .ret (.bool false) []))
                  (nd 9 <|
  .ret (.bool false) []))
                (.br (x4.f0 == 12)
                  (.br (x0)
                    (.br (x2)
                      (.br (x3)
                        (nd 6 <|
  .ret (.bool (x4.f2 == x5.f2)) [])
                        (nd 5 <|
  .ret (.bool false) []))
                      (nd 7 <|
  .ret (.bool false) []))
                    (nd 9 <|
  .ret (.bool false) []))
                  (.br (x4.f0 == 13)
                    (.br (x0)
                      (.br (x3)
                        (nd 4 <|
  .br (x5.f2 == ([110, 117, 109, 98, 101, 114] : List UInt8))
                          (nd 8 <|
  .br (!x4.f2 == x6.f2)
                            (nd 4 <|
  .br (x6.f2 == ([110, 117, 109, 98, 101, 114] : List UInt8))
                              (nd 8 <|
  .ret (.bool (x4.f2 == x5.f2)) [])
                              (nd 7 <|
  .ret (.bool false) []))
                            (nd 6 <|
  .ret (.bool true) []))
                          (nd 12 <|
  .br (x6.f2 == ([110, 117, 109, 98, 101, 114] : List UInt8))
                            (nd 8 <|
  .ret (.bool (x4.f2 == x5.f2)) [])
                            (nd 7 <|
  .ret (.bool false) [])))
                        (nd 7 <|
  .ret (.bool false) []))
                      (nd 9 <|
  .ret (.bool false) []))
                    (.br (x4.f0 == 14)
                      (.br (x0)
                        (.br (x3)
                          (nd 6 <|
  .br (x4.f2 == x5.f2)
                            (nd 3 <|
  .br (x6.f0 == 1)
                              (nd 3 <|
  .br (x6.f2 == ([110, 117, 109, 98, 101, 114] : List UInt8))
                                (nd 3 <|
  .call 105 [.int .i64 1, .int .i64 x6.f1, .int .i64 1000000] [] fun (r0 : Bool) =>
                                .ret (.bool r0) [])
                                (nd 3 <|
  .ret (.bool false) []))
                              (nd 7 <|
  .ret (.bool false) []))
                            (nd 11 <|
  .ret (.bool false) []))
                          (nd 17 <|
  .ret (.bool false) []))
                        (nd 19 <|
  .ret (.bool false) []))
                      (.br (x4.f0 == 15)
                        (.br (x0)
                          (nd 3 <|
  .br (x5.f2 == ([109, 105, 110, 117, 116, 101, 115] : List UInt8))
                            (nd 3 <|
  .call 156 [.str x6.f2] [] fun (r0 : Bool) =>
                            .br (r0)
                              (nd 6 <|
  .ret (.bool (x4.f2 == x6.f2)) [])
                              (nd 5 <|
  .ret (.bool false) []))
                            (nd 9 <|
  .ret (.bool false) []))
                          (nd 13 <|
  .ret (.bool false) []))
                        (.br (x4.f0 == 16)
                          (nd 2 <|
  .br (decide (1 < (↑x4.f4.length : Int)))
                            (.br (x2)
                              (.br (x3)
                                (nd 6 <|
  .ret (.bool (x4.f2 == x5.f2)) [])
                                (nd 5 <|
  .ret (.bool false) []))
                              (nd 7 <|
  .ret (.bool false) []))
                            (nd 9 <|
  .ret (.bool false) []))
                          (.br (x4.f0 == 17)
                            (nd 1 <|
  .br (decide (1 < (↑x4.f4.length : Int)))
                              (.br (x2)
                                (.br (x3)
                                  (nd 6 <|
  .ret (.bool (x4.f2 == x5.f2)) [])
                                  (nd 5 <|
  .ret (.bool false) []))
                                (nd 7 <|
  .ret (.bool false) []))
                              (nd 9 <|
  .ret (.bool false) []))
                            (.br (x4.f0 == 18)
                              (nd 1 <|
  .br ((↑x4.f4.length : Int) == 1)
                                (nd 3 <|
  .call 156 [.str x5.f2] [] fun (r0 : Bool) =>
                                .br (r0)
                                  (nd 6 <|
  .br (x4.f2 == x5.f2)
                                    (nd 3 <|
  .call 213 [.agg (encT .n24 x4.f3)] [] fun (r1 : Bool) =>
                                    .ret (.bool r1) [])
                                    (nd 3 <|
  .ret (.bool false) []))
                                  (nd 9 <|
  .ret (.bool false) []))
                                (nd 13 <|
  .ret (.bool false) []))
                              (.ret (.bool false) []))))))))))))))   : Tr SVd) := by kernel_rfl
noncomputable def CO1_0 (x : S60) (a : S60) : Cfg T := entryC EV 212 [.agg (encT .n60 x), .ptr 0 0] [.box 60 (encT .n60 a)]
theorem CO1_0_eq (x : S60) (a : S60) : tree EV SVd 4000 .any (CO1_0 x a) =
  (nd 3 <|
  .ret (.bool (!x.f2 == a.f2)) [.box 60 (encT .n60 a)]   : Tr SVd) := by kernel_rfl
noncomputable def CFd_0 (l : List S60) (x : S60) : Cfg T := entryC EV 110 [.sl .n60 l .no, .fn 212 [] [.ptr 0 0]] [.box 60 (encT .n60 x)]
theorem CFd_0_eq (l : List S60) (x : S60) : tree EV SVd 4000 .any (CFd_0 l x) =
  (.call 164 [.sl .n60 l .no, .fn 212 [] [.ptr 0 0]] [.box 60 (encT .n60 x)] fun (r0 : Int × S60) =>
  .ret (.bool (decide (0 ≤ r0.fst))) [.box 60 (encT .n60 r0.snd)]   : Tr SVd) := by kernel_rfl
noncomputable def IFd_0 (l : List S60) (x : S60) : Cfg T := entryC EV 164 [.sl .n60 l .no, .fn 212 [] [.ptr 0 0]] [.box 60 (encT .n60 x)]
noncomputable def IFd_2 (x0 : List S60) (x1 : Int) (x2 : Int) (x3 : S60) : Cfg T := atCut EV 164 2 1 [(0, some (.sl .n60 x0 .no)), (1, some (.fn 212 [] [.ptr 0 0])), (7, some (.int .i64 x1)), (8, some (.int .i64 x2))] [.box 60 (encT .n60 x3)]
theorem IFd_0_eq (l : List S60) (x : S60) : tree EV SVd 4000 .any (IFd_0 l x) =
  (.stop (IFd_2 l ((↑l.length : Int)) 0 x)   : Tr SVd) := by kernel_rfl
theorem IFd_2_eq (x0 : List S60) (x1 : Int) (x2 : Int) (x3 : S60) : tree EV SVd 4000 .any (IFd_2 x0 x1 x2 x3) =
  (.br (decide (x2 < x1))
    (.need (decide (0 ≤ x2) && decide (x2 < (↑x0.length : Int))) <|
    .call 212 [.agg (encT .n60 (x0.getD x2.toNat d60)), .ptr 0 0] [.box 60 (encT .n60 x3)] fun (r0 : Bool × S60) =>
    .br (r0.fst)
      (.ret (.int .i64 x2) [.box 60 (encT .n60 r0.snd)])
      (.stop (IFd_2 x0 x1 (IntKind.i64.wrap (x2 + 1)) r0.snd)))
    (.ret (.int .i64 (-1)) [.box 60 (encT .n60 x3)])   : Tr SVd) := by kernel_rfl
noncomputable def KNode_0 (c : S31) (m : List (Int × Int)) (e : S60) : Cfg T := entryC EV 157 [.agg (encT .n31 c ++ [.map 0]), .agg (encT .n60 e)] [.map .n3 .n3 m]
noncomputable def KNode_3 (x0 : Bool) (x1 : Bool) (x2 : List (Int × Int)) (x3 : S31) (x4 : S60) : Cfg T := atCut EV 157 3 1 [(2, some (.ptr 1 0)), (3, some (.ptr 2 0)), (5, some (.bool x0)), (6, some (.bool x1))] [.map .n3 .n3 x2, .box 97 (encT .n31 x3 ++ [.map 0]), .box 60 (encT .n60 x4)]
theorem KNode_0_eq (c : S31) (m : List (Int × Int)) (e : S60) : tree EV SVc 4000 (.two (.yes (.yes (.yes (.yes .any)))) (.no (.no (.no (.no .any))))) (KNode_0 c m e) =
  (nd 3 <|
  .br (!!e.f3.f0 == 0)
    (nd 6 <|
  .call 105 [.int .i64 1, .int .i64 e.f0, .int .i64 4] [] fun (r0 : Bool) =>
    .stop (KNode_3 (!(↑e.f3.f1.length : Int) == 0) r0 m c e))
    (nd 6 <|
  .call 105 [.int .i64 1, .int .i64 e.f0, .int .i64 4] [] fun (r0 : Bool) =>
    .stop (KNode_3 true r0 m c e))   : Tr SVc) := by kernel_rfl
noncomputable def KNode_5 (x0 : List (Int × Int)) (x1 : S31) (x2 : S60) : Cfg T := atCut EV 157 5 1 [(2, some (.ptr 1 0)), (3, some (.ptr 2 0))] [.map .n3 .n3 x0, .box 97 (encT .n31 x1 ++ [.map 0]), .box 60 (encT .n60 x2)]
theorem KNode_3_eq (x0 : Bool) (x1 : Bool) (x2 : List (Int × Int)) (x3 : S31) (x4 : S60) : tree EV SVc 4000 (.two (.yes (.two (.yes (.yes (.yes (.two (.yes (.yes (.two (.yes (.yes (.yes (.two (.yes (.two (.yes (.yes (.yes (.yes .any)))) (.no (.no (.no (.yes (.no .any))))))) (.no (.no (.yes .any))))))) (.no (.no (.yes (.yes (.yes (.two (.yes (.yes (.yes (.yes .any)))) (.no (.no (.no (.yes (.no .any)))))))))))))) (.no (.no (.no (.no (.no (.no (.yes .any))))))))))) (.no (.no (.yes (.yes (.yes (.yes (.two (.yes (.yes (.yes (.two (.yes (.two (.yes (.yes (.yes (.yes .any)))) (.no (.no (.no (.yes (.no .any))))))) (.no (.no (.yes .any))))))) (.no (.no (.yes (.yes (.yes (.two (.yes (.yes (.yes (.yes .any)))) (.no (.no (.no (.yes (.no .any)))))))))))))))))))) (.no (.no (.no (.no (.no (.no (.no (.no (.no (.yes .any))))))))))) (KNode_3 x0 x1 x2 x3 x4) =
  (nd 1 <|
  .call 110 [.sl .n60 x4.f4 .no, .fn 188 [] [.ptr 0 0]] [.box 97 (encT .n31 x3 ++ [.map 1]), .map .n3 .n3 x2] fun (r0 : Bool × S31 × List (Int × Int)) =>
  .br (!r0.fst)
    (nd 1 <|
  .br (x0)
      (nd 4 <|
  .br (!!x4.f0 == 18)
        (nd 2 <|
  .br (!x1)
          (nd 4 <|
  .br (!!x4.f1 == 0)
            (nd 1 <|
  .br (x1)
              (nd 5 <|
  .br (decide (0 < (↑x4.f4.length : Int)))
                (.ret (.bool false) [.map .n3 .n3 r0.snd.snd])
                (.stop (KNode_5 r0.snd.snd r0.snd.fst x4)))
              (nd 6 <|
  .stop (KNode_5 r0.snd.snd r0.snd.fst x4)))
            (nd 4 <|
  .ret (.bool false) [.map .n3 .n3 r0.snd.snd]))
          (nd 6 <|
  .br (x1)
            (nd 5 <|
  .br (decide (0 < (↑x4.f4.length : Int)))
              (.ret (.bool false) [.map .n3 .n3 r0.snd.snd])
              (.stop (KNode_5 r0.snd.snd r0.snd.fst x4)))
            (nd 6 <|
  .stop (KNode_5 r0.snd.snd r0.snd.fst x4))))
        (nd 9 <|
  .ret (.bool false) [.map .n3 .n3 r0.snd.snd]))
      (nd 7 <|
  .br (!x1)
        (nd 4 <|
  .br (!!x4.f1 == 0)
          (nd 1 <|
  .br (x1)
            (nd 5 <|
  .br (decide (0 < (↑x4.f4.length : Int)))
              (.ret (.bool false) [.map .n3 .n3 r0.snd.snd])
              (.stop (KNode_5 r0.snd.snd r0.snd.fst x4)))
            (nd 6 <|
  .stop (KNode_5 r0.snd.snd r0.snd.fst x4)))
          (nd 4 <|
  .ret (.bool false) [.map .n3 .n3 r0.snd.snd]))
        (nd 6 <|
  .br (x1)
          (nd 5 <|
  .br (decide (0 < (↑x4.f4.length : Int)))
            (.ret (.bool false) [.map .n3 .n3 r0.snd.snd])
            (.stop (KNode_5 r0.snd.snd r0.snd.fst x4)))
          (nd 6 <|
  .stop (KNode_5 r0.snd.snd r0.snd.fst x4)))))
    (nd 13 <|
  .ret (.bool false) [.map .n3 .n3 r0.snd.snd])   : Tr SVc) := by kernel_rfl
theorem KNode_5_eq (x0 : List (Int × Int)) (x1 : S31) (x2 : S60) : tree EV SVc 4000 (.two (.two (.two (.yes (.yes (.yes .any))) (.no (.no (.no .any)))) (.two (.yes (.yes (.yes .any))) (.no (.no (.no .any))))) (.two (.two (.yes (.yes (.yes (.yes (.yes (.yes (.yes (.yes (.yes (.yes .any)))))))))) (.no (.no (.no (.no (.no (.no (.no (.no (.no (.no .any))))))))))) (.two (.two (.yes (.yes (.yes (.yes (.yes (.yes (.yes (.yes (.yes .any))))))))) (.no (.no (.no (.no (.no (.no (.no (.no (.no .any)))))))))) (.two (.two (.yes (.yes .any)) (.no (.no .any))) .any)))) (KNode_5 x0 x1 x2) =
  (nd 1 <|
  .br (x2.f0 == 1)
    (nd 1 <|
  .br (x2.f2 == ([116, 114, 117, 116, 104] : List UInt8))
      (nd 1 <|
  .call 103 [.str x2.f2] [] fun (r0 : Bool) =>
      .br (r0)
        (nd 4 <|
  .call 105 [.int .i64 0, .int .i64 x2.f1, .int .i64 1] [] fun (r1 : Bool) =>
        .ret (.bool r1) [.map .n3 .n3 x0])
        (nd 4 <|
  .ret (.bool false) [.map .n3 .n3 x0]))
      (nd 1 <|
  .call 103 [.str x2.f2] [] fun (r0 : Bool) =>
      .br (r0)
        (nd 4 <|
  .call 105 [.int .i64 0, .int .i64 x2.f1, .int .i64 999999999999] [] fun (r1 : Bool) =>
        .ret (.bool r1) [.map .n3 .n3 x0])
        (nd 4 <|
  .ret (.bool false) [.map .n3 .n3 x0])))
    (.br (x2.f0 == 2)
      (nd 2 <|
  .call 105 [.int .i64 0, .int .i64 x2.f1, .int .i64 (IntKind.i64.wrap ((↑x1.f0.length : Int) - 1))] [] fun (r0 : Bool) =>
      .br (r0)
        (nd 10 <|
  .need (decide (0 ≤ x2.f1) && decide (x2.f1 < (↑x1.f0.length : Int))) <|
        nd 3 <|
  .ret (.bool (x2.f2 == (x1.f0.getD x2.f1.toNat d57).f1)) [.map .n3 .n3 x0])
        (nd 11 <|
  .ret (.bool false) [.map .n3 .n3 x0]))
      (.br (x2.f0 == 3)
        (nd 3 <|
  .br ((lookupT K.n3 K.n3 EV x0 x2.f1).isSome)
          (nd 8 <|
  .need (decide (0 ≤ (lookupT K.n3 K.n3 EV x0 x2.f1).getD 0) && decide ((lookupT K.n3 K.n3 EV x0 x2.f1).getD 0 < (↑x1.f1.length : Int))) <|
          nd 3 <|
  .ret (.bool (x2.f2 == (x1.f1.getD (Int.toNat ((lookupT K.n3 K.n3 EV x0 x2.f1).getD 0)) d57).f1)) [.map .n3 .n3 x0])
          (nd 10 <|
  .ret (.bool false) [.map .n3 .n3 x0]))
        (.br (x2.f0 == 4)
          (nd 1 <|
  .call 105 [.int .i64 1, .int .i64 x2.f1, .int .i64 4] [] fun (r0 : Bool) =>
          .br (r0)
            (nd 3 <|
  .ret (.bool (x2.f2 == ([110, 117, 109, 98, 101, 114] : List UInt8))) [.map .n3 .n3 x0])
            (nd 3 <|
  .ret (.bool false) [.map .n3 .n3 x0]))
          (nd 1 <|
  .call 189 [.agg (encT .n60 x2)] [] fun (r0 : Bool) =>
          .ret (.bool r0) [.map .n3 .n3 x0]))))   : Tr SVc) := by kernel_rfl
noncomputable def KNode1_0 (c : S31) (m : List (Int × Int)) (e : S60) : Cfg T := entryC EV 188 [.agg (encT .n60 e), .ptr 0 0] [.box 97 (encT .n31 c ++ [.map 1]), .map .n3 .n3 m]
theorem KNode1_0_eq (c : S31) (m : List (Int × Int)) (e : S60) : tree EV SVc 4000 .any (KNode1_0 c m e) =
  (nd 3 <|
  .call 157 [.agg (encT .n31 c ++ [.map 0]), .agg (encT .n60 e)] [.map .n3 .n3 m] fun (r0 : Bool × List (Int × Int)) =>
  .ret (.bool (!r0.fst)) [.box 97 (encT .n31 c ++ [.map 1]), .map .n3 .n3 r0.snd]   : Tr SVc) := by kernel_rfl
noncomputable def CFc_0 (l : List S60) (c : S31) (m : List (Int × Int)) : Cfg T := entryC EV 110 [.sl .n60 l .no, .fn 188 [] [.ptr 0 0]] [.box 97 (encT .n31 c ++ [.map 1]), .map .n3 .n3 m]
theorem CFc_0_eq (l : List S60) (c : S31) (m : List (Int × Int)) : tree EV SVc 4000 .any (CFc_0 l c m) =
  (.call 164 [.sl .n60 l .no, .fn 188 [] [.ptr 0 0]] [.box 97 (encT .n31 c ++ [.map 1]), .map .n3 .n3 m] fun (r0 : Int × S31 × List (Int × Int)) =>
  .ret (.bool (decide (0 ≤ r0.fst))) [.box 97 (encT .n31 r0.snd.fst ++ [.map 1]), .map .n3 .n3 r0.snd.snd]   : Tr SVc) := by kernel_rfl
noncomputable def IFc_0 (l : List S60) (c : S31) (m : List (Int × Int)) : Cfg T := entryC EV 164 [.sl .n60 l .no, .fn 188 [] [.ptr 0 0]] [.box 97 (encT .n31 c ++ [.map 1]), .map .n3 .n3 m]
noncomputable def IFc_2 (x0 : List S60) (x1 : Int) (x2 : Int) (x3 : S31) (x4 : List (Int × Int)) : Cfg T := atCut EV 164 2 2 [(0, some (.sl .n60 x0 .no)), (1, some (.fn 188 [] [.ptr 0 0])), (7, some (.int .i64 x1)), (8, some (.int .i64 x2))] [.box 97 (encT .n31 x3 ++ [.map 1]), .map .n3 .n3 x4]
theorem IFc_0_eq (l : List S60) (c : S31) (m : List (Int × Int)) : tree EV SVc 4000 .any (IFc_0 l c m) =
  (.stop (IFc_2 l ((↑l.length : Int)) 0 c m)   : Tr SVc) := by kernel_rfl
theorem IFc_2_eq (x0 : List S60) (x1 : Int) (x2 : Int) (x3 : S31) (x4 : List (Int × Int)) : tree EV SVc 4000 .any (IFc_2 x0 x1 x2 x3 x4) =
  (.br (decide (x2 < x1))
    (.need (decide (0 ≤ x2) && decide (x2 < (↑x0.length : Int))) <|
    .call 188 [.agg (encT .n60 (x0.getD x2.toNat d60)), .ptr 0 0] [.box 97 (encT .n31 x3 ++ [.map 1]), .map .n3 .n3 x4] fun (r0 : Bool × S31 × List (Int × Int)) =>
    .br (r0.fst)
      (.ret (.int .i64 x2) [.box 97 (encT .n31 r0.snd.fst ++ [.map 1]), .map .n3 .n3 r0.snd.snd])
      (.stop (IFc_2 x0 x1 (IntKind.i64.wrap (x2 + 1)) r0.snd.fst r0.snd.snd)))
    (.ret (.int .i64 (-1)) [.box 97 (encT .n31 x3 ++ [.map 1]), .map .n3 .n3 x4])   : Tr SVc) := by kernel_rfl
noncomputable def KFits_0 (c : S31) (m : List (Int × Int)) (e : S60) : Cfg T := entryC EV 106 [.agg (encT .n31 c ++ [.map 0]), .agg (encT .n60 e)] [.map .n3 .n3 m]
theorem KFits_0_eq (c : S31) (m : List (Int × Int)) (e : S60) : tree EV SVc 4000 (.two (.yes (.yes .any)) (.no (.no .any))) (KFits_0 c m e) =
  (nd 3 <|
  .call 93 [.agg (encT .n60 e), .int .i64 1] [] fun (r0 : Int) =>
  .br (decide (r0 ≤ 400))
    (nd 4 <|
  .call 157 [.agg (encT .n31 c ++ [.map 0]), .agg (encT .n60 e)] [.map .n3 .n3 m] fun (r1 : Bool × List (Int × Int)) =>
    .ret (.bool r1.fst) [.map .n3 .n3 r1.snd])
    (nd 3 <|
  .ret (.bool false) [.map .n3 .n3 m])   : Tr SVc) := by kernel_rfl
noncomputable def KArt_0 (c : S31) (m : List (Int × Int)) (a : S62) : Cfg T := entryC EV 61 [.agg (encT .n31 c ++ [.map 0]), .agg (encT .n62 a)] [.map .n3 .n3 m]
noncomputable def KArt_4 (x0 : List Int) (x1 : Int) (x2 : Int) (x3 : List (Int × Int)) (x4 : S31) (x5 : S62) : Cfg T := atCut EV 61 4 1 [(2, some (.ptr 1 0)), (3, some (.ptr 2 0)), (42, some (.sl .n3 x0 .no)), (43, some (.int .i64 x1)), (44, some (.int .i64 x2))] [.map .n3 .n3 x3, .box 97 (encT .n31 x4 ++ [.map 0]), .box 62 (encT .n62 x5)]
theorem KArt_0_eq (c : S31) (m : List (Int × Int)) (a : S62) : tree EV SVc 4000 (.two (.yes (.yes (.yes (.two (.yes (.yes (.yes (.yes (.yes (.yes (.two (.yes (.yes (.two (.yes (.yes (.yes .any))) (.no (.no (.no (.yes .any))))))) (.no (.no (.no (.no (.no (.no (.yes .any)))))))))))))) (.no (.no (.no (.no (.no (.no (.no (.no (.no (.no (.no (.no (.no (.yes .any)))))))))))))))))) (.no (.no (.no (.no (.no (.no (.no (.no (.no (.no (.no (.no (.no (.no (.no (.no (.no (.yes .any))))))))))))))))))) (KArt_0 c m a) =
  (nd 3 <|
  .call 105 [.int .i64 1, .int .i64 a.f0, .int .i64 1000000] [] fun (r0 : Bool) =>
  .br (!!r0)
    (nd 3 <|
  .call 105 [.int .i64 0, .int .i64 a.f2, .int .i64 1000000] [] fun (r1 : Bool) =>
    nd 1 <|
  .br (!!r1)
      (nd 7 <|
  .call 105 [.int .i64 0, .int .i64 a.f3, .int .i64 (IntKind.i64.wrap (a.f4 - 1))] [] fun (r2 : Bool) =>
      nd 1 <|
  .br (!!r2)
        (nd 3 <|
  .br (!decide (36525 < a.f4))
          (nd 3 <|
  .call 105 [.int .i64 0, .int .i64 a.f5, .int .i64 36524] [] fun (r3 : Bool) =>
          nd 1 <|
  .br (!r3)
            (.ret (.bool false) [.map .n3 .n3 m])
            (nd 1 <|
  .stop (KArt_4 a.f7 ((↑a.f7.length : Int)) 0 m c a)))
          (nd 5 <|
  .ret (.bool false) [.map .n3 .n3 m]))
        (nd 9 <|
  .ret (.bool false) [.map .n3 .n3 m]))
      (nd 17 <|
  .ret (.bool false) [.map .n3 .n3 m]))
    (nd 22 <|
  .ret (.bool false) [.map .n3 .n3 m])   : Tr SVc) := by kernel_rfl
noncomputable def KArt_11 (x0 : List S60) (x1 : Int) (x2 : Int) (x3 : List (Int × Int)) (x4 : S31) (x5 : S62) : Cfg T := atCut EV 61 11 1 [(2, some (.ptr 1 0)), (3, some (.ptr 2 0)), (59, some (.sl .n60 x0 .no)), (60, some (.int .i64 x1)), (61, some (.int .i64 x2))] [.map .n3 .n3 x3, .box 97 (encT .n31 x4 ++ [.map 0]), .box 62 (encT .n62 x5)]
theorem KArt_4_eq (x0 : List Int) (x1 : Int) (x2 : Int) (x3 : List (Int × Int)) (x4 : S31) (x5 : S62) : tree EV SVc 4000 .any (KArt_4 x0 x1 x2 x3 x4 x5) =
  (.br (decide (x2 < x1))
    (.need (decide (0 ≤ x2) && decide (x2 < (↑x0.length : Int))) <|
    nd 2 <|
  .br (!(lookupT K.n3 K.n3 EV x3 (x0.getD x2.toNat 0)).isSome)
      (.ret (.bool false) [.map .n3 .n3 x3])
      (.stop (KArt_4 x0 x1 (IntKind.i64.wrap (x2 + 1)) x3 x4 x5)))
    (nd 1 <|
  .stop (KArt_11 x5.f6 ((↑x5.f6.length : Int)) 0 x3 x4 x5))   : Tr SVc) := by kernel_rfl
theorem KArt_11_eq (x0 : List S60) (x1 : Int) (x2 : Int) (x3 : List (Int × Int)) (x4 : S31) (x5 : S62) : tree EV SVc 4000 (.two (.two (.yes (.yes (.yes .any))) (.no (.no (.no (.yes .any))))) (.two (.yes (.yes (.yes .any))) (.no (.no (.no .any))))) (KArt_11 x0 x1 x2 x3 x4 x5) =
  (.br (decide (x2 < x1))
    (.need (decide (0 ≤ x2) && decide (x2 < (↑x0.length : Int))) <|
    nd 3 <|
  .br (!!(x0.getD x2.toNat d60).f2 == ([116, 114, 117, 116, 104] : List UInt8))
      (nd 4 <|
  .call 106 [.agg (encT .n31 x4 ++ [.map 0]), .agg (encT .n60 (x0.getD x2.toNat d60))] [.map .n3 .n3 x3] fun (r0 : Bool × List (Int × Int)) =>
      nd 1 <|
  .br (!r0.fst)
        (.ret (.bool false) [.map .n3 .n3 r0.snd])
        (.stop (KArt_11 x0 x1 (IntKind.i64.wrap (x2 + 1)) r0.snd x4 x5)))
      (nd 5 <|
  .ret (.bool false) [.map .n3 .n3 x3]))
    (nd 3 <|
  .need (decide (0 ≤ x5.f1) && decide (x5.f1 < (↑x4.f1.length : Int))) <|
    .br (x5.f8.f2 == (x4.f1.getD x5.f1.toNat d57).f1)
      (nd 5 <|
  .call 106 [.agg (encT .n31 x4 ++ [.map 0]), .agg (encT .n60 x5.f8)] [.map .n3 .n3 x3] fun (r0 : Bool × List (Int × Int)) =>
      .ret (.bool r0.fst) [.map .n3 .n3 r0.snd])
      (nd 4 <|
  .ret (.bool false) [.map .n3 .n3 x3]))   : Tr SVc) := by kernel_rfl
noncomputable def KArt3_0 (c : S31) (m : List (Int × Int)) (a : S62) : Cfg T := entryC EV 60 [.agg (encT .n62 a), .ptr 0 0] [.box 97 (encT .n31 c ++ [.map 1]), .map .n3 .n3 m]
theorem KArt3_0_eq (c : S31) (m : List (Int × Int)) (a : S62) : tree EV SVc 4000 .any (KArt3_0 c m a) =
  (nd 3 <|
  .call 61 [.agg (encT .n31 c ++ [.map 0]), .agg (encT .n62 a)] [.map .n3 .n3 m] fun (r0 : Bool × List (Int × Int)) =>
  .ret (.bool (!r0.fst)) [.box 97 (encT .n31 c ++ [.map 1]), .map .n3 .n3 r0.snd]   : Tr SVc) := by kernel_rfl
noncomputable def CFe_0 (l : List S62) (c : S31) (m : List (Int × Int)) : Cfg T := entryC EV 59 [.sl .n62 l .no, .fn 60 [] [.ptr 0 0]] [.box 97 (encT .n31 c ++ [.map 1]), .map .n3 .n3 m]
theorem CFe_0_eq (l : List S62) (c : S31) (m : List (Int × Int)) : tree EV SVc 4000 .any (CFe_0 l c m) =
  (.call 104 [.sl .n62 l .no, .fn 60 [] [.ptr 0 0]] [.box 97 (encT .n31 c ++ [.map 1]), .map .n3 .n3 m] fun (r0 : Int × S31 × List (Int × Int)) =>
  .ret (.bool (decide (0 ≤ r0.fst))) [.box 97 (encT .n31 r0.snd.fst ++ [.map 1]), .map .n3 .n3 r0.snd.snd]   : Tr SVc) := by kernel_rfl
noncomputable def IFe_0 (l : List S62) (c : S31) (m : List (Int × Int)) : Cfg T := entryC EV 104 [.sl .n62 l .no, .fn 60 [] [.ptr 0 0]] [.box 97 (encT .n31 c ++ [.map 1]), .map .n3 .n3 m]
noncomputable def IFe_2 (x0 : List S62) (x1 : Int) (x2 : Int) (x3 : S31) (x4 : List (Int × Int)) : Cfg T := atCut EV 104 2 2 [(0, some (.sl .n62 x0 .no)), (1, some (.fn 60 [] [.ptr 0 0])), (7, some (.int .i64 x1)), (8, some (.int .i64 x2))] [.box 97 (encT .n31 x3 ++ [.map 1]), .map .n3 .n3 x4]
theorem IFe_0_eq (l : List S62) (c : S31) (m : List (Int × Int)) : tree EV SVc 4000 .any (IFe_0 l c m) =
  (.stop (IFe_2 l ((↑l.length : Int)) 0 c m)   : Tr SVc) := by kernel_rfl
theorem IFe_2_eq (x0 : List S62) (x1 : Int) (x2 : Int) (x3 : S31) (x4 : List (Int × Int)) : tree EV SVc 4000 .any (IFe_2 x0 x1 x2 x3 x4) =
  (.br (decide (x2 < x1))
    (.need (decide (0 ≤ x2) && decide (x2 < (↑x0.length : Int))) <|
    .call 60 [.agg (encT .n62 (x0.getD x2.toNat d62)), .ptr 0 0] [.box 97 (encT .n31 x3 ++ [.map 1]), .map .n3 .n3 x4] fun (r0 : Bool × S31 × List (Int × Int)) =>
    .br (r0.fst)
      (.ret (.int .i64 x2) [.box 97 (encT .n31 r0.snd.fst ++ [.map 1]), .map .n3 .n3 r0.snd.snd])
      (.stop (IFe_2 x0 x1 (IntKind.i64.wrap (x2 + 1)) r0.snd.fst r0.snd.snd)))
    (.ret (.int .i64 (-1)) [.box 97 (encT .n31 x3 ++ [.map 1]), .map .n3 .n3 x4])   : Tr SVc) := by kernel_rfl
noncomputable def CGood1_0 (a0 : Int) : Cfg T := entryC EV 57 [.int .i64 a0] []
theorem CGood1_0_eq (a0 : Int) : tree EV SVc 4000 .any (CGood1_0 a0) =
  (.ret (.bool (a0 == 0)) []   : Tr SVc) := by kernel_rfl
noncomputable def CGood2_0 (a0 : Int) : Cfg T := entryC EV 58 [.int .i64 a0] []
theorem CGood2_0_eq (a0 : Int) : tree EV SVc 4000 (.two (.yes .any) (.no .any)) (CGood2_0 a0) =
  (.br (decide (1 ≤ a0))
    (nd 1 <|
  .ret (.bool (decide (a0 ≤ 4))) [])
    (nd 2 <|
  .ret (.bool false) [])   : Tr SVc) := by kernel_rfl
noncomputable def CDecl1_0 (l : List S57) : Cfg T := entryC EV 56 [.sl .n57 l .no, .fn 57 [] []] []
noncomputable def CDecl1_3 (x0 : List S57) (x1 : List S57) (x2 : Int) (x3 : Int) (x4 : List (T K.n9 × T K.n4)) : Cfg T := atCut EV 56 3 0 [(0, some (.sl .n57 x0 .no)), (1, some (.fn 57 [] [])), (5, some (.map 0)), (9, some (.sl .n57 x1 .no)), (10, some (.int .i64 x2)), (11, some (.int .i64 x3))] [.map .n9 .n4 x4]
theorem CDecl1_0_eq (l : List S57) : tree EV SVc 4000 .any (CDecl1_0 l) =
  (nd 1 <|
  .stop (CDecl1_3 l l ((↑l.length : Int)) 0 [])   : Tr SVc) := by kernel_rfl
theorem CDecl1_3_eq (x0 : List S57) (x1 : List S57) (x2 : Int) (x3 : Int) (x4 : List (T K.n9 × T K.n4)) : tree EV SVc 4000 (.two (.two (.yes (.yes (.yes (.two (.yes (.yes (.yes (.yes (.two (.yes (.yes (.yes (.yes .any)))) (.no (.no (.no (.no (.yes .any)))))))))) (.no (.no (.no (.no (.no (.no (.no (.no (.no (.yes .any)))))))))))))) (.no (.no (.no (.no (.no (.no (.no (.no (.no (.no (.no (.no (.no (.yes .any))))))))))))))) .any) (CDecl1_3 x0 x1 x2 x3 x4) =
  (.br (decide (x3 < x2))
    (.need (decide (0 ≤ x3) && decide (x3 < (↑x1.length : Int))) <|
    nd 4 <|
  .br (!(lookupT K.n9 K.n4 EV x4 (x1.getD x3.toNat d57).f0).getD false)
      (nd 3 <|
  .call 103 [.str ((x1.getD x3.toNat d57).f1)] [] fun (r0 : Bool) =>
      nd 1 <|
  .br (!!r0)
        (nd 4 <|
  .call 57 [.int .i64 ((x1.getD x3.toNat d57).f2)] [] fun (r1 : Bool) =>
        nd 1 <|
  .br (!!r1)
          (nd 4 <|
  .call 45 [.agg [.int .i64 12, .str ((x1.getD x3.toNat d57).f0), .str [], .int .i64 0, .int .i64 0, .int .i64 0, .int .i64 0, .int .i64 0, .sl .n158 [] .no, .sl .n27 [] .no, .int .i64 0]] [] fun (r2 : Bool) =>
          nd 1 <|
  .br (!r2)
            (.ret (.bool false) [])
            (nd 2 <|
  .stop (CDecl1_3 x0 x1 x2 (IntKind.i64.wrap (x3 + 1)) (updT K.n9 K.n4 EV x4 (x1.getD x3.toNat d57).f0 true))))
          (nd 6 <|
  .ret (.bool false) []))
        (nd 12 <|
  .ret (.bool false) []))
      (nd 17 <|
  .ret (.bool false) []))
    (.ret (.bool (decide ((↑x0.length : Int) ≤ 32))) [])   : Tr SVc) := by kernel_rfl
noncomputable def CDecl2_0 (l : List S57) : Cfg T := entryC EV 56 [.sl .n57 l .no, .fn 58 [] []] []
noncomputable def CDecl2_3 (x0 : List S57) (x1 : List S57) (x2 : Int) (x3 : Int) (x4 : List (T K.n9 × T K.n4)) : Cfg T := atCut EV 56 3 0 [(0, some (.sl .n57 x0 .no)), (1, some (.fn 58 [] [])), (5, some (.map 0)), (9, some (.sl .n57 x1 .no)), (10, some (.int .i64 x2)), (11, some (.int .i64 x3))] [.map .n9 .n4 x4]
theorem CDecl2_0_eq (l : List S57) : tree EV SVc 4000 .any (CDecl2_0 l) =
  (nd 1 <|
  .stop (CDecl2_3 l l ((↑l.length : Int)) 0 [])   : Tr SVc) := by kernel_rfl
theorem CDecl2_3_eq (x0 : List S57) (x1 : List S57) (x2 : Int) (x3 : Int) (x4 : List (T K.n9 × T K.n4)) : tree EV SVc 4000 (.two (.two (.yes (.yes (.yes (.two (.yes (.yes (.yes (.yes (.two (.yes (.yes (.yes (.yes .any)))) (.no (.no (.no (.no (.yes .any)))))))))) (.no (.no (.no (.no (.no (.no (.no (.no (.no (.yes .any)))))))))))))) (.no (.no (.no (.no (.no (.no (.no (.no (.no (.no (.no (.no (.no (.yes .any))))))))))))))) .any) (CDecl2_3 x0 x1 x2 x3 x4) =
  (.br (decide (x3 < x2))
    (.need (decide (0 ≤ x3) && decide (x3 < (↑x1.length : Int))) <|
    nd 4 <|
  .br (!(lookupT K.n9 K.n4 EV x4 (x1.getD x3.toNat d57).f0).getD false)
      (nd 3 <|
  .call 103 [.str ((x1.getD x3.toNat d57).f1)] [] fun (r0 : Bool) =>
      nd 1 <|
  .br (!!r0)
        (nd 4 <|
  .call 58 [.int .i64 ((x1.getD x3.toNat d57).f2)] [] fun (r1 : Bool) =>
        nd 1 <|
  .br (!!r1)
          (nd 4 <|
  .call 45 [.agg [.int .i64 12, .str ((x1.getD x3.toNat d57).f0), .str [], .int .i64 0, .int .i64 0, .int .i64 0, .int .i64 0, .int .i64 0, .sl .n158 [] .no, .sl .n27 [] .no, .int .i64 0]] [] fun (r2 : Bool) =>
          nd 1 <|
  .br (!r2)
            (.ret (.bool false) [])
            (nd 2 <|
  .stop (CDecl2_3 x0 x1 x2 (IntKind.i64.wrap (x3 + 1)) (updT K.n9 K.n4 EV x4 (x1.getD x3.toNat d57).f0 true))))
          (nd 6 <|
  .ret (.bool false) []))
        (nd 12 <|
  .ret (.bool false) []))
      (nd 17 <|
  .ret (.bool false) []))
    (.ret (.bool (decide ((↑x0.length : Int) ≤ 32))) [])   : Tr SVc) := by kernel_rfl
noncomputable def CValid_0 (a0 : S31) : Cfg T := entryC EV 22 [.agg (encT .n31 a0)] []
noncomputable def CValid_5 (x0 : List S62) (x1 : Int) (x2 : Int) (x3 : S31) (x4 : List (T K.n3 × T K.n3)) : Cfg T := atCut EV 22 5 0 [(1, some (.ptr 0 0)), (3, some (.map 1)), (27, some (.sl .n62 x0 .no)), (28, some (.int .i64 x1)), (29, some (.int .i64 x2))] [.box 31 (encT .n31 x3), .map .n3 .n3 x4]
theorem CValid_0_eq (a0 : S31) : tree EV SVc 4000 (.two (.yes (.yes (.yes (.two (.yes (.yes (.yes .any))) (.no (.no (.no (.yes .any)))))))) (.no (.no (.no (.no (.no (.no (.no (.yes .any))))))))) (CValid_0 a0) =
  (nd 2 <|
  .call 56 [.sl .n57 a0.f0 .no, .fn 57 [] []] [] fun (r0 : Bool) =>
  .br (!!r0)
    (nd 3 <|
  .call 56 [.sl .n57 a0.f1 .no, .fn 58 [] []] [] fun (r1 : Bool) =>
    nd 1 <|
  .br (!!r1)
      (nd 4 <|
  .br (decide (60 < (↑a0.f2.length : Int)))
        (.ret (.bool false) [])
        (nd 2 <|
  .stop (CValid_5 a0.f2 ((↑a0.f2.length : Int)) 0 a0 [])))
      (nd 5 <|
  .ret (.bool false) []))
    (nd 10 <|
  .ret (.bool false) [])   : Tr SVc) := by kernel_rfl
theorem CValid_5_eq (x0 : List S62) (x1 : Int) (x2 : Int) (x3 : S31) (x4 : List (T K.n3 × T K.n3)) : tree EV SVc 4000 (.two (.two (.yes (.yes (.yes (.yes (.yes (.two .any (.two (.yes (.yes (.yes .any))) (.no (.no (.no (.no .any))))))))))) (.no (.no (.no (.no (.no (.yes .any))))))) .any) (CValid_5 x0 x1 x2 x3 x4) =
  (.br (decide (x2 < x1))
    (.need (decide (0 ≤ x2) && decide (x2 < (↑x0.length : Int))) <|
    nd 3 <|
  .br (!decide ((x0.getD x2.toNat d62).f1 < 0))
      (nd 7 <|
  .br (decide ((↑x3.f1.length : Int) ≤ (x0.getD x2.toNat d62).f1))
        (.ret (.bool false) [])
        (nd 2 <|
  .br ((lookupT K.n3 K.n3 EV x4 (x0.getD x2.toNat d62).f0).isSome)
          (nd 4 <|
  .br (!(lookupT K.n3 K.n3 EV x4 (x0.getD x2.toNat d62).f0).getD 0 == (x0.getD x2.toNat d62).f1)
            (.ret (.bool false) [])
            (nd 3 <|
  .stop (CValid_5 x0 x1 (IntKind.i64.wrap (x2 + 1)) x3 (updT K.n3 K.n3 EV x4 (x0.getD x2.toNat d62).f0 (x0.getD x2.toNat d62).f1))))
          (nd 8 <|
  .stop (CValid_5 x0 x1 (IntKind.i64.wrap (x2 + 1)) x3 (updT K.n3 K.n3 EV x4 (x0.getD x2.toNat d62).f0 (x0.getD x2.toNat d62).f1)))))
      (nd 7 <|
  .ret (.bool false) []))
    (nd 4 <|
  .call 59 [.sl .n62 x3.f2 .no, .fn 60 [] [.ptr 0 0]] [.box 97 (encT .n31 x3 ++ [.map 1]), .map .n3 .n3 x4] fun (r0 : Bool × S31 × List (Int × Int)) =>
    .ret (.bool (!r0.fst)) [])   : Tr SVc) := by kernel_rfl
end Go.Proofs.YtnenfgpjedddoaaGreat.AI
