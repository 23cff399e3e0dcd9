/- Decision trees of functions: written by a program of mine (aigen.py), proved by the kernel's own computation. -/
import Derived.Test.YtnenfgpjedddoaaGreatAISay
set_option maxRecDepth 100000
set_option linter.unusedVariables false
namespace Go.Proofs.YtnenfgpjedddoaaGreat.AI
open Go
noncomputable def LPriority_0 (a0 : S31) (a1 : Int) (a2 : Int) : Cfg T := entryC EV 6 [.agg (encT .n31 a0), .int .i64 a1, .int .i64 a2] []
theorem LPriority_0_eq (a0 : S31) (a1 : Int) (a2 : Int) : tree EV SV 4000 (.two .any (.two (.yes (.two (.yes (.two .any (.two (.yes (.two (.yes (.yes (.yes (.yes (.two (.yes (.yes (.yes (.yes (.two (.two (.yes (.two (.yes .any) (.no .any))) (.no (.no (.no .any)))) (.two (.yes (.yes (.yes (.yes (.two (.two (.yes (.two (.yes .any) (.no .any))) (.no (.no (.no .any)))) (.two (.two (.yes (.yes (.yes (.yes (.yes (.yes (.two (.yes (.yes (.yes (.yes (.yes (.yes .any)))))) (.no (.no (.no (.no (.no (.no .any))))))))))))) (.no (.no (.no (.no (.no (.no (.no (.no (.no (.no (.no (.no (.no .any)))))))))))))) (.two (.two (.yes (.yes (.two (.yes (.yes .any)) (.no (.no .any))))) (.no (.no (.no (.no (.no .any)))))) (.two (.yes (.yes (.yes (.yes (.yes (.yes (.two (.yes (.yes (.yes (.yes (.yes (.yes .any)))))) (.no (.no (.no (.no (.no (.no .any))))))))))))) (.no (.no (.no (.no (.no (.no (.no (.no (.no (.no (.no (.no (.no .any))))))))))))))))))))) (.no (.no (.no (.no (.yes (.two (.yes (.two (.yes .any) (.no .any))) (.no (.no (.no .any))))))))))))))) (.no (.no (.no (.no (.yes (.two (.yes (.two (.yes .any) (.no .any))) (.no (.no (.no .any)))))))))))))) (.no (.no (.no (.no (.no (.no (.no (.no (.no (.yes (.two (.yes (.two (.yes .any) (.no .any))) (.no (.no (.no .any)))))))))))))))) (.no (.no (.no (.no (.no (.no (.no (.no (.no (.no (.no (.yes (.two (.yes (.two (.yes .any) (.no .any))) (.no (.no (.no .any))))))))))))))))))) (.yes (.no (.two (.yes (.two (.yes (.yes (.yes (.yes (.two (.yes (.yes (.yes (.yes (.two (.two (.yes (.two (.yes .any) (.no .any))) (.no (.no (.no .any)))) (.two (.yes (.yes (.yes (.yes (.two (.two (.yes (.two (.yes .any) (.no .any))) (.no (.no (.no .any)))) (.two (.two (.yes (.yes (.yes (.yes (.yes (.yes (.two (.yes (.yes (.yes (.yes (.yes (.yes .any)))))) (.no (.no (.no (.no (.no (.no .any))))))))))))) (.no (.no (.no (.no (.no (.no (.no (.no (.no (.no (.no (.no (.no .any)))))))))))))) (.two (.two (.yes (.yes (.two (.yes (.yes .any)) (.no (.no .any))))) (.no (.no (.no (.no (.no .any)))))) (.two (.yes (.yes (.yes (.yes (.yes (.yes (.two (.yes (.yes (.yes (.yes (.yes (.yes .any)))))) (.no (.no (.no (.no (.no (.no .any))))))))))))) (.no (.no (.no (.no (.no (.no (.no (.no (.no (.no (.no (.no (.no .any))))))))))))))))))))) (.no (.no (.no (.no (.yes (.two (.yes (.two (.yes .any) (.no .any))) (.no (.no (.no .any))))))))))))))) (.no (.no (.no (.no (.yes (.two (.yes (.two (.yes .any) (.no .any))) (.no (.no (.no .any)))))))))))))) (.no (.no (.no (.no (.no (.no (.no (.no (.no (.yes (.two (.yes (.two (.yes .any) (.no .any))) (.no (.no (.no .any)))))))))))))))) (.no (.no (.no (.no (.no (.no (.no (.no (.no (.no (.no (.yes (.two (.yes (.two (.yes .any) (.no .any))) (.no (.no (.no .any))))))))))))))))))))) (.no (.no (.yes .any))))) (LPriority_0 a0 a1 a2) =
  (nd 1 <|
  .call 11 [] [] fun (r0 : Bool) =>
  nd 1 <|
  .call 13 [.agg (encT .n31 a0)] [] fun (r1 : Bool) =>
  .br (!r1)
    (.ret (.bool r0) [])
    (nd 1 <|
  .call 24 [.agg (encT .n31 a0), .int .i64 a1, .int .i64 a2] [] fun (r2 : Bool) =>
    nd 1 <|
  .call 24 [.agg (encT .n31 a0), .int .i64 a2, .int .i64 a1] [] fun (r3 : Bool) =>
    nd 1 <|
  .call 24 [.agg (encT .n31 a0), .int .i64 a1, .int .i64 a1] [] fun (r4 : Bool) =>
    .br (!r4)
      (nd 1 <|
  .br (r2)
        (nd 1 <|
  .br (r3)
          (.ret (.bool false) [])
          (.br (!decide (a1 < 0))
            (nd 1 <|
  .br (!decide (a2 < 0))
              (nd 5 <|
  .br (!decide ((↑a0.f2.length : Int) ≤ a1))
                (nd 5 <|
  .br (decide ((↑a0.f2.length : Int) ≤ a2))
                  (.br (r0)
                    (nd 1 <|
  .br (!r2)
                      (nd 1 <|
  .ret (.bool !r3) [])
                      (nd 2 <|
  .ret (.bool false) []))
                    (nd 5 <|
  .ret (.bool false) []))
                  (nd 1 <|
  .need (decide (0 ≤ a1) && decide (a1 < (↑a0.f2.length : Int))) <|
                  nd 1 <|
  .need (decide (0 ≤ a2) && decide (a2 < (↑a0.f2.length : Int))) <|
                  nd 6 <|
  .br (!!(a0.f2.getD a1.toNat d62).f1 == (a0.f2.getD a2.toNat d62).f1)
                    (nd 6 <|
  .br ((a0.f2.getD a1.toNat d62).f0 == (a0.f2.getD a2.toNat d62).f0)
                      (.br (r0)
                        (nd 1 <|
  .br (!r2)
                          (nd 1 <|
  .ret (.bool !r3) [])
                          (nd 2 <|
  .ret (.bool false) []))
                        (nd 5 <|
  .ret (.bool false) []))
                      (nd 2 <|
  .br (!(a0.f2.getD a1.toNat d62).f2 == (a0.f2.getD a2.toNat d62).f2)
                        (.br (r0)
                          (nd 8 <|
  .br (r2 == decide ((a0.f2.getD a2.toNat d62).f2 < (a0.f2.getD a1.toNat d62).f2))
                            (nd 8 <|
  .ret (.bool (r3 == decide ((a0.f2.getD a1.toNat d62).f2 < (a0.f2.getD a2.toNat d62).f2))) [])
                            (nd 7 <|
  .ret (.bool false) []))
                          (nd 15 <|
  .ret (.bool false) []))
                        (nd 2 <|
  .call 35 [.sl .n60 ((a0.f2.getD a1.toNat d62).f6) .no, .sl .n60 ((a0.f2.getD a2.toNat d62).f6) .no] [] fun (r5 : Bool) =>
                        nd 2 <|
  .call 35 [.sl .n60 ((a0.f2.getD a2.toNat d62).f6) .no, .sl .n60 ((a0.f2.getD a1.toNat d62).f6) .no] [] fun (r6 : Bool) =>
                        .br (!r5 == r6)
                          (.br (r0)
                            (nd 2 <|
  .br (r2 == r5)
                              (nd 2 <|
  .ret (.bool (r3 == r6)) [])
                              (nd 3 <|
  .ret (.bool false) []))
                            (nd 7 <|
  .ret (.bool false) []))
                          (.br (r0)
                            (nd 8 <|
  .br (r2 == decide ((a0.f2.getD a2.toNat d62).f5 < (a0.f2.getD a1.toNat d62).f5))
                              (nd 8 <|
  .ret (.bool (r3 == decide ((a0.f2.getD a1.toNat d62).f5 < (a0.f2.getD a2.toNat d62).f5))) [])
                              (nd 7 <|
  .ret (.bool false) []))
                            (nd 15 <|
  .ret (.bool false) [])))))
                    (nd 6 <|
  .br (r0)
                      (nd 1 <|
  .br (!r2)
                        (nd 1 <|
  .ret (.bool !r3) [])
                        (nd 2 <|
  .ret (.bool false) []))
                      (nd 5 <|
  .ret (.bool false) []))))
                (nd 6 <|
  .br (r0)
                  (nd 1 <|
  .br (!r2)
                    (nd 1 <|
  .ret (.bool !r3) [])
                    (nd 2 <|
  .ret (.bool false) []))
                  (nd 5 <|
  .ret (.bool false) [])))
              (nd 12 <|
  .br (r0)
                (nd 1 <|
  .br (!r2)
                  (nd 1 <|
  .ret (.bool !r3) [])
                  (nd 2 <|
  .ret (.bool false) []))
                (nd 5 <|
  .ret (.bool false) [])))
            (nd 15 <|
  .br (r0)
              (nd 1 <|
  .br (!r2)
                (nd 1 <|
  .ret (.bool !r3) [])
                (nd 2 <|
  .ret (.bool false) []))
              (nd 5 <|
  .ret (.bool false) []))))
        (nd 3 <|
  .br (!decide (a1 < 0))
          (nd 1 <|
  .br (!decide (a2 < 0))
            (nd 5 <|
  .br (!decide ((↑a0.f2.length : Int) ≤ a1))
              (nd 5 <|
  .br (decide ((↑a0.f2.length : Int) ≤ a2))
                (.br (r0)
                  (nd 1 <|
  .br (!r2)
                    (nd 1 <|
  .ret (.bool !r3) [])
                    (nd 2 <|
  .ret (.bool false) []))
                  (nd 5 <|
  .ret (.bool false) []))
                (nd 1 <|
  .need (decide (0 ≤ a1) && decide (a1 < (↑a0.f2.length : Int))) <|
                nd 1 <|
  .need (decide (0 ≤ a2) && decide (a2 < (↑a0.f2.length : Int))) <|
                nd 6 <|
  .br (!!(a0.f2.getD a1.toNat d62).f1 == (a0.f2.getD a2.toNat d62).f1)
                  (nd 6 <|
  .br ((a0.f2.getD a1.toNat d62).f0 == (a0.f2.getD a2.toNat d62).f0)
                    (.br (r0)
                      (nd 1 <|
  .br (!r2)
                        (nd 1 <|
  .ret (.bool !r3) [])
                        (nd 2 <|
  .ret (.bool false) []))
                      (nd 5 <|
  .ret (.bool false) []))
                    (nd 2 <|
  .br (!(a0.f2.getD a1.toNat d62).f2 == (a0.f2.getD a2.toNat d62).f2)
                      (.br (r0)
                        (nd 8 <|
  .br (r2 == decide ((a0.f2.getD a2.toNat d62).f2 < (a0.f2.getD a1.toNat d62).f2))
                          (nd 8 <|
  .ret (.bool (r3 == decide ((a0.f2.getD a1.toNat d62).f2 < (a0.f2.getD a2.toNat d62).f2))) [])
                          (nd 7 <|
  .ret (.bool false) []))
                        (nd 15 <|
  .ret (.bool false) []))
                      (nd 2 <|
  .call 35 [.sl .n60 ((a0.f2.getD a1.toNat d62).f6) .no, .sl .n60 ((a0.f2.getD a2.toNat d62).f6) .no] [] fun (r5 : Bool) =>
                      nd 2 <|
  .call 35 [.sl .n60 ((a0.f2.getD a2.toNat d62).f6) .no, .sl .n60 ((a0.f2.getD a1.toNat d62).f6) .no] [] fun (r6 : Bool) =>
                      .br (!r5 == r6)
                        (.br (r0)
                          (nd 2 <|
  .br (r2 == r5)
                            (nd 2 <|
  .ret (.bool (r3 == r6)) [])
                            (nd 3 <|
  .ret (.bool false) []))
                          (nd 7 <|
  .ret (.bool false) []))
                        (.br (r0)
                          (nd 8 <|
  .br (r2 == decide ((a0.f2.getD a2.toNat d62).f5 < (a0.f2.getD a1.toNat d62).f5))
                            (nd 8 <|
  .ret (.bool (r3 == decide ((a0.f2.getD a1.toNat d62).f5 < (a0.f2.getD a2.toNat d62).f5))) [])
                            (nd 7 <|
  .ret (.bool false) []))
                          (nd 15 <|
  .ret (.bool false) [])))))
                  (nd 6 <|
  .br (r0)
                    (nd 1 <|
  .br (!r2)
                      (nd 1 <|
  .ret (.bool !r3) [])
                      (nd 2 <|
  .ret (.bool false) []))
                    (nd 5 <|
  .ret (.bool false) []))))
              (nd 6 <|
  .br (r0)
                (nd 1 <|
  .br (!r2)
                  (nd 1 <|
  .ret (.bool !r3) [])
                  (nd 2 <|
  .ret (.bool false) []))
                (nd 5 <|
  .ret (.bool false) [])))
            (nd 12 <|
  .br (r0)
              (nd 1 <|
  .br (!r2)
                (nd 1 <|
  .ret (.bool !r3) [])
                (nd 2 <|
  .ret (.bool false) []))
              (nd 5 <|
  .ret (.bool false) [])))
          (nd 15 <|
  .br (r0)
            (nd 1 <|
  .br (!r2)
              (nd 1 <|
  .ret (.bool !r3) [])
              (nd 2 <|
  .ret (.bool false) []))
            (nd 5 <|
  .ret (.bool false) []))))
      (nd 4 <|
  .ret (.bool false) []))   : Tr SV) := by kernel_rfl
end Go.Proofs.YtnenfgpjedddoaaGreat.AI
