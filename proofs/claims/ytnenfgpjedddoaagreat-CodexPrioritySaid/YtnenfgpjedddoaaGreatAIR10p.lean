/- CodexPriority: the run of the law at whatever a row's data gives. -/
import Derived.Test.YtnenfgpjedddoaaGreatAIL10d
import Derived.Test.YtnenfgpjedddoaaGreatAIHd
import Derived.Test.YtnenfgpjedddoaaGreatAIXOk10
namespace Go.Proofs.YtnenfgpjedddoaaGreat.AI
open Go
theorem priority_row {c : S31} {a b : Int} (hc : ∀ v ∈ encT .n31 c, Dom EV v) (_ : Dom EV (.int .i64 a)) (_ : Dom EV (.int .i64 b)) :
    Calld EV XV 6 [.agg (encT .n31 c), .int .i64 a, .int .i64 b] [] (.bool true) [] := priority_runs head_true c (dom_C c hc) a b
end Go.Proofs.YtnenfgpjedddoaaGreat.AI
