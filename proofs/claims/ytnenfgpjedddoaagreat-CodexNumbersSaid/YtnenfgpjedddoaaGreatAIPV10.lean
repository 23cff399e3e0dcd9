/- Names and units: what makes a text one. -/
import Derived.Test.YtnenfgpjedddoaaGreatAIP10
import Derived.Laws.RangeAny
import Derived.Laws.RangeString
set_option linter.unusedVariables false
set_option linter.unusedSimpArgs false
namespace Go.Proofs.YtnenfgpjedddoaaGreat.AI
open Go

def upB (x : Int) : Bool := decide (65 ≤ x) && decide (x ≤ 90)
def loB (x : Int) : Bool := decide (97 ≤ x) && decide (x ≤ 122)
def diB (x : Int) : Bool := decide (48 ≤ x) && decide (x ≤ 57)
def naB (x : Int) : Bool := loB x || (diB x || decide (x = 95))
def curS (s : List UInt8) : Bool := decide (s.length = 3) && s.all fun x => upB x.toNat
def unitS (s : List UInt8) : Bool := decide (s = ([116, 114, 117, 116, 104] : List UInt8)) || (decide (s = ([110, 117, 109, 98, 101, 114] : List UInt8)) || (decide (s = ([109, 105, 110, 117, 116, 101, 115] : List UInt8)) || curS s))
def keysS : List (List UInt8) := [([102, 97, 99, 116] : List UInt8), ([108, 105, 110, 101] : List UInt8), ([97, 114, 116, 105, 99, 108, 101] : List UInt8), ([102, 111, 114] : List UInt8), ([114, 97, 110, 107] : List UInt8), ([102, 114, 111, 109] : List UInt8), ([116, 111] : List UInt8), ([107, 110, 111, 119, 110] : List UInt8), ([119, 104, 101, 110] : List UInt8), ([117, 110, 108, 101, 115, 115] : List UInt8), ([97, 109, 111, 117, 110, 116] : List UInt8), ([116, 114, 117, 116, 104] : List UInt8), ([110, 117, 109, 98, 101, 114] : List UInt8), ([109, 105, 110, 117, 116, 101, 115] : List UInt8), ([109, 105, 110] : List UInt8), ([101, 97, 114, 110] : List UInt8), ([100, 101, 100, 117, 99, 116] : List UInt8), ([102, 108, 111, 111, 114] : List UInt8), ([105, 110, 102, 111] : List UInt8), ([111, 114] : List UInt8), ([97, 110, 100] : List UInt8), ([110, 111, 116] : List UInt8), ([97, 116] : List UInt8), ([116, 114, 117, 101] : List UInt8), ([102, 97, 108, 115, 101] : List UInt8), ([97, 114, 116] : List UInt8), ([119, 101, 101, 107, 100, 97, 121] : List UInt8), ([100, 97, 121] : List UInt8), ([109, 111, 110, 116, 104] : List UInt8), ([121, 101, 97, 114] : List UInt8), ([108, 101, 97, 115, 116] : List UInt8), ([103, 114, 101, 97, 116, 101, 115, 116] : List UInt8), ([116, 97, 98, 108, 101] : List UInt8)]
noncomputable def nameS (s : List UInt8) : Bool := decide (1 ≤ s.length) && (decide (s.length ≤ 16) && (loB (s.getD 0 0).toNat && (!dec (s ∈ keysS) && s.all fun x => naB x.toNat)))
/-- Where the first one is, or -1. -/
def idxS {α : Type} (p : α → Bool) (l : List α) : Int := if l.findIdx p < l.length then (l.findIdx p : Int) else -1
theorem idxS_at {α : Type} {p : α → Bool} {l : List α} {k : Nat} (hk : k < l.length) (h1 : p l[k] = true) (h2 : ∀ j (hj : j < k), p l[j] = false) : idxS p l = k := by
  have : l.findIdx p = k := (List.findIdx_eq hk).2 ⟨h1, h2⟩
  unfold idxS
  rw [this, if_pos hk]
theorem idxS_none {α : Type} {p : α → Bool} {l : List α} (h : ∀ j (hj : j < l.length), p l[j] = false) : idxS p l = -1 := by
  have : l.findIdx p = l.length := List.findIdx_eq_length.2 fun x hx => by
    obtain ⟨j, hj, rfl⟩ := List.getElem_of_mem hx
    exact h j hj
  unfold idxS
  rw [this, if_neg (Nat.lt_irrefl _)]
/-- Signs of a text, by Go's reading of it. -/
theorem dec_low {s : List UInt8} {i : Nat} (h : i < s.length) (ha : s[i].toNat < 128) : Utf8.decode ⟨⟨s⟩⟩ i = (s[i].toNat, 1) := Go.decode_ascii ⟨⟨s⟩⟩ i h ha
theorem dec_high {s : List UInt8} {i : Nat} (h : i < s.length) (ha : ¬ s[i].toNat < 128) : 128 ≤ (Utf8.decode ⟨⟨s⟩⟩ i).1 := (Go.decode_high ⟨⟨s⟩⟩ i h (Nat.le_of_not_lt ha)).1
end Go.Proofs.YtnenfgpjedddoaaGreat.AI
