/- CodexVersions: the run of the law at whatever a row's data gives. -/
import Derived.Test.YtnenfgpjedddoaaGreatAIL10b
import Derived.Test.YtnenfgpjedddoaaGreatAIHd
import Derived.Test.YtnenfgpjedddoaaGreatAIXOk10
namespace Go.Proofs.YtnenfgpjedddoaaGreat.AI
open Go
theorem versions_row {c : S31} {n d k : Int} (hc : ∀ v ∈ encT .n31 c, Dom EV v) (_ : Dom EV (.int .i64 n)) (_ : Dom EV (.int .i64 d)) (_ : Dom EV (.int .i64 k)) :
    Calld EV XV 5 [.agg (encT .n31 c), .int .i64 n, .int .i64 d, .int .i64 k] [] (.bool true) [] := versions_runs head_true c (dom_C c hc) n d k
end Go.Proofs.YtnenfgpjedddoaaGreat.AI
