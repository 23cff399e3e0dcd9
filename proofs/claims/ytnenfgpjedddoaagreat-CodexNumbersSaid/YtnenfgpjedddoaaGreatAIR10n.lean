/- CodexNumbers: the run of the law at whatever a row's data gives. -/
import Derived.Test.YtnenfgpjedddoaaGreatAIL10m
import Derived.Test.YtnenfgpjedddoaaGreatAIHd
import Derived.Test.YtnenfgpjedddoaaGreatAIXOk10
set_option linter.unusedSimpArgs false
set_option linter.unusedVariables false
namespace Go.Proofs.YtnenfgpjedddoaaGreat.AI
open Go
theorem dom_u16 {x : Int} (h : Dom EV (.int .u16 x)) : inB x := by
  cases h with
  | int h =>
    simp [Lit.wf, IntKind.min, IntKind.max, IntKind.signed, IntKind.bits] at h
    exact ⟨by omega, by omega⟩
theorem numbers_row {c : S31} {b : Int} (hc : ∀ v ∈ encT .n31 c, Dom EV v) (hb : Dom EV (.int .u16 b)) :
    Calld EV XV 10 [.agg (encT .n31 c), .int .u16 b] [] (.bool true) [] := numbers_runs head_true c (dom_C c hc) b (dom_u16 hb)
end Go.Proofs.YtnenfgpjedddoaaGreat.AI
