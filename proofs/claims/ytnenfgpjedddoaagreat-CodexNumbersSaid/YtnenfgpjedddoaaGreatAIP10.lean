/- Plain words on the values of layer 10: trees, lists, truth values. No program in sight. -/
import Derived.Test.YtnenfgpjedddoaaGreatAITab
import Derived.IntWalk
set_option linter.unusedVariables false
set_option linter.unusedSimpArgs false
namespace Go.Proofs.YtnenfgpjedddoaaGreat.AI
open Go

theorem wr {x : Int} (h1 : -9223372036854775808 ≤ x) (h2 : x ≤ 9223372036854775807) : IntKind.i64.wrap x = x := IntWalk.i64_in x ⟨h1, h2⟩
/-- Downward from the end. -/
theorem down {p : Nat → Prop} (n : Nat) (h0 : ∀ k, n ≤ k → p k) (h1 : ∀ k, k < n → p (k + 1) → p k) (k : Nat) : p k := by
  by_cases hk : n ≤ k
  · exact h0 k hk
  · have : ∀ d k, n - k = d → p k := by
      intro d
      induction d with
      | zero => intro k h; exact h0 k (by omega)
      | succ d ih => intro k h; exact h1 k (by omega) (ih (k + 1) (by omega))
    exact this _ k rfl
theorem getD_at {α : Type} {l : List α} {k : Nat} {d : α} (h : k < l.length) : l.getD k d = l[k] := by simp [List.getD, h]
def inI (x : Int) : Prop := -9223372036854775808 ≤ x ∧ x ≤ 9223372036854775807
/-- The truth value of a statement. -/
noncomputable def dec (p : Prop) : Bool := @decide p (Classical.propDecidable p)
theorem dec_true {p : Prop} (h : p) : dec p = true := by simp [dec, h]
theorem dec_false {p : Prop} (h : ¬ p) : dec p = false := by simp [dec, h]
theorem dec_iff {p : Prop} : dec p = true ↔ p := by simp [dec]
theorem dec_not {p : Prop} : dec p = false ↔ ¬ p := by simp [dec]
theorem dec_of {p : Prop} {b : Bool} (h : b = true ↔ p) : dec p = b := by
  cases b with
  | true => exact dec_true (h.1 rfl)
  | false => exact dec_false fun hp => by cases h.2 hp
theorem dec_congr {p q : Prop} (h : p ↔ q) : dec p = dec q := by rw [propext h]
theorem dec_and {p q : Prop} : dec (p ∧ q) = (dec p && dec q) := by
  by_cases hp : p <;> by_cases hq : q <;> simp [dec, hp, hq]
theorem dec_or {p q : Prop} : dec (p ∨ q) = (dec p || dec q) := by
  by_cases hp : p <;> by_cases hq : q <;> simp [dec, hp, hq]
theorem dec_neg {p : Prop} : dec (¬ p) = !dec p := by
  by_cases hp : p <;> simp [dec, hp]
theorem dec_dec {p : Prop} [h : Decidable p] : dec p = decide p := by
  by_cases hp : p <;> simp [dec, hp]

theorem drop_eq {α : Type} {a b : List α} {i : Nat} (ha : i < a.length) (hb : i < b.length) : a.drop i = b.drop i ↔ a[i] = b[i] ∧ a.drop (i + 1) = b.drop (i + 1) := by
  rw [List.drop_eq_getElem_cons ha, List.drop_eq_getElem_cons hb, List.cons.injEq]

/-! ### Expressions -/
mutual
theorem indE {p : S60 → Prop} (h : ∀ e, (∀ k ∈ e.f4, p k) → p e) : ∀ e : S60, p e
  | ⟨a, b, c, d, ks⟩ => h ⟨a, b, c, d, ks⟩ (indEs h ks)
theorem indEs {p : S60 → Prop} (h : ∀ e, (∀ k ∈ e.f4, p k) → p e) : ∀ ks : List S60, ∀ k ∈ ks, p k
  | [], _, hk => absurd hk List.not_mem_nil
  | k :: ks, x, hx => (List.mem_cons.1 hx).elim (fun e => e ▸ indE h k) (fun hx => indEs h ks x hx)
end
mutual
theorem indN {p : S27 → Prop} (h : ∀ e, (∀ k ∈ e.f8, p k) → p e) : ∀ e : S27, p e
  | ⟨a, b, c, d, e, f, g, t, ks, i⟩ => h ⟨a, b, c, d, e, f, g, t, ks, i⟩ (indNs h ks)
theorem indNs {p : S27 → Prop} (h : ∀ e, (∀ k ∈ e.f8, p k) → p e) : ∀ ks : List S27, ∀ k ∈ ks, p k
  | [], _, hk => absurd hk List.not_mem_nil
  | k :: ks, x, hx => (List.mem_cons.1 hx).elim (fun e => e ▸ indN h k) (fun hx => indNs h ks x hx)
end
/-- No list in it is longer than memory. -/
inductive okE : S60 → Prop
  | mk {e : S60} (h1 : e.f4.length < 1000000000000000) (h2 : e.f3.f1.length < 1000000000000000) (h : ∀ k ∈ e.f4, okE k) (hu : e.f2.length < 1000000000000000) : okE e
theorem okE.len {e : S60} (h : okE e) : e.f4.length < 1000000000000000 := by cases h; assumption
theorem okE.kid {e : S60} (h : okE e) : ∀ k ∈ e.f4, okE k := by cases h; assumption
theorem okE.unit {e : S60} (h : okE e) : e.f2.length < 1000000000000000 := by cases h; assumption
structure okA (a : S62) : Prop where
  when : a.f6.length < 1000000000000000
  except : a.f7.length < 1000000000000000
  whens : ∀ e ∈ a.f6, okE e
  amount : okE a.f8
  whenB : a.f6.length * 88 ≤ 140737488351232
  exceptB : a.f7.length * 8 ≤ 140737488351232
structure okDs (l : List S57) : Prop where
  len : l.length < 1000000000000000
  name : ∀ d ∈ l, d.f0.length < 1000000000000000
  unit : ∀ d ∈ l, d.f1.length < 1000000000000000
structure okC (c : S31) : Prop where
  facts : c.f0.length < 1000000000000000
  lines : c.f1.length < 1000000000000000
  arts : c.f2.length < 1000000000000000
  art : ∀ a ∈ c.f2, okA a
  okf : okDs c.f0
  okl : okDs c.f1
mutual
/-- How many nodes an expression has. -/
def nodes : S60 → Nat
  | ⟨_, _, _, _, ks⟩ => 1 + nodesL ks
def nodesL : List S60 → Nat
  | [] => 0
  | k :: ks => nodes k + nodesL ks
end
theorem nodes_eq (e : S60) : nodes e = 1 + nodesL e.f4 := by cases e; rfl
theorem nodesL_app (a b : List S60) : nodesL (a ++ b) = nodesL a + nodesL b := by
  induction a with
  | nil => simp [nodesL]
  | cons x a ih => simp [nodesL, ih]; omega
theorem nodesL_take {l : List S60} {i : Nat} (h : i < l.length) : nodesL (l.take (i + 1)) = nodesL (l.take i) + nodes l[i] := by
  rw [List.take_succ_eq_append_getElem h, nodesL_app]; simp [nodesL]
theorem nodesL_le (l : List S60) (i : Nat) : nodesL (l.take i) ≤ nodesL l := by
  have := nodesL_app (l.take i) (l.drop i)
  rw [List.take_append_drop] at this
  omega
/-- Counting that stops at a limit. -/
def cntS (e : S60) (l : Int) : Int := if l ≤ 0 then 0 else min l (nodes e)
end Go.Proofs.YtnenfgpjedddoaaGreat.AI
