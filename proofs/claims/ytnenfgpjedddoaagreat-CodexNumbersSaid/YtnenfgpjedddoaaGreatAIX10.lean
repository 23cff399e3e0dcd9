/- What is known of the library's functions beforehand. -/
import Derived.Test.YtnenfgpjedddoaaGreatAITab
import Derived.Test.YtnenfgpjedddoaaGreatAITree
import Derived.Lib.Index
set_option linter.unusedVariables false
namespace Go.Proofs.YtnenfgpjedddoaaGreat.AI
open Go

abbrev XX := Nat → List (V T) → List (Ob T) → V T → List (Ob T) → Prop
/-- strings.Index is function 184. -/
def XV : XX := fun f args obs r obs' => f = 184 ∧ obs' = obs ∧ ∃ s t : List UInt8, args = [.str s, .str t] ∧ s.length < 4294967281 ∧ r = .int .i64 (Lib.index s t)
theorem call_Index0 {s t : List UInt8} {obs : List (Ob T)} (h : s.length < 4294967281) : Calld EV XV 184 [.str s, .str t] obs (.int .i64 (Lib.index s t)) obs := .inl ⟨rfl, rfl, s, t, rfl, h, rfl⟩
def asIndex (args : List (V T)) : Option (V T) := match args with
  | [.str s, .str t] => match Nat.blt s.length 4294967281 with
    | true => some (.int .i64 (Lib.index s t))
    | false => none
  | _ => none
theorem call_Index {args : List (V T)} {obs : List (Ob T)} {v : V T} (h : asIndex args = some v) : Calld EV XV 184 args obs v obs := by
  unfold asIndex at h
  split at h
  · split at h
    · rename_i hl
      cases h
      exact call_Index0 (Nat.le_of_ble_eq_true hl)
    · cases h
  · cases h
end Go.Proofs.YtnenfgpjedddoaaGreat.AI
