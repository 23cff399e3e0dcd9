/- Decision trees of functions: written by a program of mine (aigen.py), proved by the kernel's own computation. -/
import Derived.Test.YtnenfgpjedddoaaGreatAISay
set_option maxRecDepth 100000
set_option linter.unusedVariables false
namespace Go.Proofs.YtnenfgpjedddoaaGreat.AI
open Go
noncomputable def LFits_0 (a : S62) (n : Int) (d : Int) (k : Int) : Cfg T := entryC EV 33 [.agg (encT .n62 a), .ptr 0 0, .ptr 1 0, .ptr 2 0] [.box 3 [.int .i64 n], .box 3 [.int .i64 d], .box 3 [.int .i64 k]]
theorem LFits_0_eq (a : S62) (n : Int) (d : Int) (k : Int) : tree EV SV 4000 (.two (.yes (.yes (.yes (.two (.yes (.yes (.yes (.two (.yes (.yes (.yes .any))) (.no (.no (.no .any))))))) (.no (.no (.no (.no (.no (.no (.no .any))))))))))) (.no (.no (.no (.no (.no (.no (.no (.no (.no (.no (.no .any)))))))))))) (LFits_0 a n d k) =
  (nd 3 <|
  .br (a.f0 == n)
    (nd 5 <|
  .br (decide (a.f3 ≤ d))
      (nd 5 <|
  .br (decide (d < a.f4))
        (nd 5 <|
  .ret (.bool (decide (a.f5 ≤ k))) [.box 3 [.int .i64 n], .box 3 [.int .i64 d], .box 3 [.int .i64 k]])
        (nd 4 <|
  .ret (.bool false) [.box 3 [.int .i64 n], .box 3 [.int .i64 d], .box 3 [.int .i64 k]]))
      (nd 9 <|
  .ret (.bool false) [.box 3 [.int .i64 n], .box 3 [.int .i64 d], .box 3 [.int .i64 k]]))
    (nd 14 <|
  .ret (.bool false) [.box 3 [.int .i64 n], .box 3 [.int .i64 d], .box 3 [.int .i64 k]])   : Tr SV) := by kernel_rfl
end Go.Proofs.YtnenfgpjedddoaaGreat.AI
