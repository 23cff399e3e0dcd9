/- Layer 10: whether an expression fits a codex: the reference's side. -/
import Derived.Test.YtnenfgpjedddoaaGreatAIL10g
set_option linter.unusedVariables false
set_option linter.unusedSimpArgs false
namespace Go.Proofs.YtnenfgpjedddoaaGreat.AI
open Go
variable {X : XX}

mutual
/-- The depth of an expression; the root has depth 1. -/
def depthE : S60 → Nat
  | ⟨_, _, _, _, ks⟩ => 1 + depthL ks
def depthL : List S60 → Nat
  | [] => 0
  | k :: ks => max (depthE k) (depthL ks)
end
theorem depthE_eq (e : S60) : depthE e = 1 + depthL e.f4 := by cases e; rfl
theorem depthL_le {n : Nat} : ∀ {l : List S60}, depthL l ≤ n ↔ ∀ k ∈ l, depthE k ≤ n
  | [] => by simp [depthL]
  | k :: ks => by
    have := depthL_le (n := n) (l := ks)
    simp only [depthL, List.mem_cons, forall_eq_or_imp, ← this]
    omega
theorem call_RFlat : ∀ (e : S60), okE e → ∀ (l : Int), -1 ≤ l → l ≤ 1000 → Calld EV X 155 [.agg (encT .n60 e), .int .i64 l] [] (.bool (dec ((depthE e : Int) ≤ l))) [] := by
  refine indE fun e ih oe l hl1 hl2 => ?_
  have o1 := oe.len
  have loop : 1 ≤ l → ∀ i, i ≤ e.f4.length → Runs EV X (RFlat_4 l (i : Int) e) (.bool (dec (∀ k ∈ e.f4.drop i, (depthE k : Int) ≤ l - 1))) [] := by
    intro h1
    refine down e.f4.length (fun i hi hi2 => ?_) (fun i hi ih2 _ => ?_)
    · refine runs_by (RFlat_4_eq _ _ _) ?_
      simp only [Tr.ok, nd_ok, and_true, true_and, Int.toNat_natCast, Bool.and_eq_true, Bool.or_eq_true, Bool.not_eq_true', Bool.not_eq_false', Bool.not_not, decide_eq_true_eq, decide_eq_false_iff_not, beq_iff_eq, beq_eq_false_iff_ne, ne_eq, Bool.false_eq_true, Bool.true_eq_false, false_implies, forall_const]
      refine ⟨fun h => by omega, fun _ => ?_⟩
      rw [List.drop_eq_nil_of_le hi, dec_true (by simp)]
    · refine runs_by (RFlat_4_eq _ _ _) ?_
      simp only [Tr.ok, nd_ok, and_true, true_and, Int.toNat_natCast, Bool.and_eq_true, Bool.or_eq_true, Bool.not_eq_true', Bool.not_eq_false', Bool.not_not, decide_eq_true_eq, decide_eq_false_iff_not, beq_iff_eq, beq_eq_false_iff_ne, ne_eq, Bool.false_eq_true, Bool.true_eq_false, false_implies, forall_const, getD_at hi]
      rw [List.drop_eq_getElem_cons hi, wr (x := l - 1) (by omega) (by omega), wr (x := (i : Int) + 1) (by omega) (by omega)]
      have hm := List.getElem_mem hi
      refine ⟨fun _ => ⟨by omega, (dec ((depthE e.f4[i] : Int) ≤ l - 1) : Bool), ih _ hm (oe.kid _ hm) _ (by omega) (by omega), fun h => ?_, fun h => ?_⟩, fun h => by omega⟩
      · have h : dec ((depthE e.f4[i] : Int) ≤ l - 1) = false := by simpa using h
        refine lff fun h2 => dec_not.1 h (h2 _ (List.mem_cons_self ..))
      · have h : dec ((depthE e.f4[i] : Int) ≤ l - 1) = true := by simpa using h
        have h := dec_iff.1 h
        have : dec (∀ k ∈ e.f4[i] :: e.f4.drop (i + 1), (depthE k : Int) ≤ l - 1) = dec (∀ k ∈ e.f4.drop (i + 1), (depthE k : Int) ≤ l - 1) := dec_congr (by simp only [List.mem_cons, forall_eq_or_imp, h, true_and])
        rw [this]
        exact ih2 (by omega)
  refine calld_run rfl (runs_by (RFlat_0_eq e l) ?_)
  simp only [Tr.ok, nd_ok, and_true, true_and, Int.toNat_natCast, Bool.and_eq_true, Bool.or_eq_true, Bool.not_eq_true', Bool.not_eq_false', Bool.not_not, decide_eq_true_eq, decide_eq_false_iff_not, beq_iff_eq, beq_eq_false_iff_ne, ne_eq, Bool.false_eq_true, Bool.true_eq_false, false_implies, forall_const]
  have hd := depthE_eq e
  refine ⟨fun h => lff fun h2 => by omega, fun h => ?_⟩
  have := loop (by omega) 0 (by omega)
  rw [List.drop_zero] at this
  have e1 : dec ((depthE e : Int) ≤ l) = dec (∀ k ∈ e.f4, (depthE k : Int) ≤ l - 1) := by
    refine dec_congr ?_
    have h3 := depthL_le (n := (l - 1).toNat) (l := e.f4)
    constructor
    · intro h4 k hk
      have := h3.1 (by omega) k hk
      omega
    · intro h4
      have := h3.2 fun k hk => by have := h4 k hk; omega
      omega
  rw [e1]; exact this
theorem call_RWithin (e : S60) (oe : okE e) : Calld EV X 97 [.agg (encT .n60 e)] [] (.bool (dec (nodes e ≤ 400 ∧ depthE e ≤ 40))) [] := by
  refine calld_run rfl (runs_by (RWithin_0_eq e) ?_)
  simp only [Tr.ok, nd_ok, and_true, true_and, Int.toNat_natCast, Bool.and_eq_true, Bool.or_eq_true, Bool.not_eq_true', Bool.not_eq_false', Bool.not_not, decide_eq_true_eq, decide_eq_false_iff_not, beq_iff_eq, beq_eq_false_iff_ne, ne_eq, Bool.false_eq_true, Bool.true_eq_false, false_implies, forall_const]
  refine ⟨(smallS e 400 : Bool), call_RSmall e oe (by decide) (by decide), fun h => ⟨(dec ((depthE e : Int) ≤ 40) : Bool), call_RFlat e oe 40 (by decide) (by decide), ?_⟩, fun h => lff fun h2 => ?_⟩
  · have h : nodes e ≤ 400 := by
      have h : smallS e 400 = true := h
      simp [smallS] at h; omega
    congr 1
    exact dec_congr ⟨fun h2 => ⟨h, by omega⟩, fun h2 => by omega⟩
  · have h : smallS e 400 = false := h
    simp [smallS] at h; omega

theorem idxS_lt {α : Type} (p : α → Bool) (l : List α) : idxS p l < l.length ∧ -1 ≤ idxS p l := by
  unfold idxS
  split <;> omega
/-- The line of an article. -/
def lineOf (c : S31) (n : Int) : Option Int := if 0 ≤ idxS (fun a => decide (a.f0 = n)) c.f2 then some (c.f2.getD (idxS (fun a => decide (a.f0 = n)) c.f2).toNat d62).f1 else none
def leafOk (c : S31) (e : S60) : Prop :=
  if e.f0 = 1 then unitS e.f2 = true ∧ 0 ≤ e.f1 ∧ e.f1 ≤ 999999999999 ∧ (e.f2 = ([116, 114, 117, 116, 104] : List UInt8) → e.f1 ≤ 1)
  else if e.f0 = 2 then 0 ≤ e.f1 ∧ e.f1 < c.f0.length ∧ e.f2 = (c.f0.getD e.f1.toNat d57).f1
  else if e.f0 = 3 then ∃ l, lineOf c e.f1 = some l ∧ 0 ≤ l ∧ l < c.f1.length ∧ e.f2 = (c.f1.getD l.toNat d57).f1
  else if e.f0 = 4 then 1 ≤ e.f1 ∧ e.f1 ≤ 4 ∧ e.f2 = ([110, 117, 109, 98, 101, 114] : List UInt8)
  else False
def localOk (c : S31) (e : S60) : Prop :=
  (e.f0 = 18 ∨ e.f3.f0 = 0 ∧ e.f3.f1 = []) ∧ (if 1 ≤ e.f0 ∧ e.f0 ≤ 4 then e.f4 = [] ∧ leafOk c e else e.f1 = 0 ∧ opOk e)
inductive nodeOk (c : S31) : S60 → Prop
  | mk {e : S60} (h : ∀ k ∈ e.f4, nodeOk c k) (hl : localOk c e) : nodeOk c e
theorem nodeOk_iff {c : S31} {e : S60} : nodeOk c e ↔ (∀ k ∈ e.f4, nodeOk c k) ∧ localOk c e := ⟨fun h => by cases h; exact ⟨by assumption, by assumption⟩, fun h => .mk h.1 h.2⟩

theorem call_RLeaf (c : S31) (oc : okC c) (e : S60) : Calld EV X 161 [.agg (encT .n31 c), .agg (encT .n60 e)] [] (.bool (dec (leafOk c e))) [] := by
  refine calld_run rfl (runs_by (RLeaf_0_eq c e) ?_)
  simp only [Tr.ok, nd_ok, and_true, true_and, Int.toNat_natCast, Bool.and_eq_true, Bool.or_eq_true, Bool.not_eq_true', Bool.not_eq_false', Bool.not_not, decide_eq_true_eq, decide_eq_false_iff_not, beq_iff_eq, beq_eq_false_iff_ne, ne_eq, Bool.false_eq_true, Bool.true_eq_false, false_implies, forall_const]
  refine ⟨fun n1 => ⟨(unitS e.f2 : Bool), call_RUnit _, fun h1 => ⟨fun h2 => ⟨fun h3 => ⟨fun h4 => lf ?_, fun h4 => ?_⟩, fun h3 => lff ?_⟩, fun h2 => lff ?_⟩, fun h1 => lff ?_⟩, fun n1 => ⟨fun n2 => ⟨fun h2 => ⟨fun h3 => ⟨⟨h2, h3⟩, lf ?_⟩, fun h3 => lff ?_⟩, fun h2 => lff ?_⟩, fun n2 => ⟨fun n3 => ?_, fun n3 => ⟨fun n4 => ⟨fun h1 => ⟨fun h2 => lf ?_, fun h2 => lff ?_⟩, fun h1 => lff ?_⟩, fun n4 => lff ?_⟩⟩⟩⟩
  · have h1 : unitS e.f2 = true := h1
    rw [decide_eq_true_eq]
    unfold leafOk
    rw [if_pos n1]
    exact ⟨fun h => ⟨h1, h2, h3, fun _ => h⟩, fun h => h.2.2.2 h4⟩
  · have h1 : unitS e.f2 = true := h1
    rw [dec_true]
    simp [leafOk, n1, h1, h2, h3, h4]
  · simp [leafOk, n1, h3]
  · simp [leafOk, n1, h2]
  · have h1 : unitS e.f2 = false := h1
    simp [leafOk, n1, h1]
  · simp [leafOk, n2, h2, h3]
  · simp [leafOk, n2, h2]; intro h; omega
  · simp [leafOk, n2]; intro h; omega
  · have hi := idxS_lt (fun a => decide (a.f0 = e.f1)) c.f2
    have el : leafOk c e ↔ ∃ l, lineOf c e.f1 = some l ∧ 0 ≤ l ∧ l < c.f1.length ∧ e.f2 = (c.f1.getD l.toNat d57).f1 := by simp [leafOk, n3]
    rw [dec_congr el]
    refine ⟨(idxS (fun a => decide (a.f0 = e.f1)) c.f2 : Int), call_RNumbered c oc.arts e.f1, fun h1 => ⟨⟨h1, hi.1⟩, fun h2 => ⟨⟨h1, hi.1⟩, fun h3 => ⟨⟨h1, hi.1⟩, ⟨h2, h3⟩, lf ?_⟩, fun h3 => lff ?_⟩, fun h2 => lff ?_⟩, fun h1 => lff ?_⟩
    · have h1 : 0 ≤ idxS (fun a => decide (a.f0 = e.f1)) c.f2 := h1
      simp only [lineOf, if_pos h1, Option.some.injEq, exists_eq_left', beq_iff_eq]
      exact ⟨fun h => ⟨h2, h3, h⟩, fun h => h.2.2⟩
    · have h1 : 0 ≤ idxS (fun a => decide (a.f0 = e.f1)) c.f2 := h1
      simp only [lineOf, if_pos h1, Option.some.injEq, exists_eq_left']
      exact fun h => h3 h.2.1
    · have h1 : 0 ≤ idxS (fun a => decide (a.f0 = e.f1)) c.f2 := h1
      simp only [lineOf, if_pos h1, Option.some.injEq, exists_eq_left']
      exact fun h => h2 h.1
    · have h1 : ¬ 0 ≤ idxS (fun a => decide (a.f0 = e.f1)) c.f2 := h1
      simp only [lineOf, if_neg h1]
      rintro ⟨l, h, _⟩; cases h
  · simp [leafOk, n4, h1, h2]
  · simp [leafOk, n4, h2]
  · simp [leafOk, n4, h1]
  · simp [leafOk, *]
theorem call_RMany (e : S60) (oe : okE e) (h2l : 2 ≤ e.f4.length) : Calld EV X 163 [.agg (encT .n60 e)] [] (.bool (dec (opOk e))) [] := by
  have hl := oe.len
  have t12 : ¬ e.f0 = 16 → ¬ e.f0 = 17 → e.f4.length = 2 → Runs EV X (RMany_12 (k0 e).f2 (k1 e).f2 e) (.bool (dec (opOk e))) [] := by
    intro n16 n17 h2
    refine runs_by (RMany_12_eq _ _ _) ?_
    have eo : opOk e ↔ ¬ e.f0 = 5 ∧ ¬ e.f0 = 18 ∧ binOk e.f0 e.f2 (k0 e).f2 (k1 e) := by
      unfold opOk
      by_cases n5 : e.f0 = 5
      · simp [n5]; omega
      · by_cases n18 : e.f0 = 18
        · simp [n18]; omega
        · simp [n5, n18, n16, n17, h2]
    have hk1 : e.f4.getD 1 d60 = k1 e := rfl
    simp only [Tr.ok, nd_ok, and_true, true_and, Int.toNat_natCast, Bool.and_eq_true, Bool.or_eq_true, Bool.not_eq_true', Bool.not_eq_false', Bool.not_not, decide_eq_true_eq, decide_eq_false_iff_not, beq_iff_eq, beq_eq_false_iff_ne, ne_eq, Bool.false_eq_true, Bool.true_eq_false, false_implies, forall_const]
    rw [dec_congr eo]
    refine ⟨fun n6 => ?_, fun n6 => ⟨fun n7 => ?_, fun n7 => ⟨fun n8 => ?_, fun n8 => ⟨fun n9 => ?_, fun n9 => ⟨fun n10 => ?_, fun n10 => ⟨fun n11 => ?_, fun n11 => ⟨fun n12 => ?_, fun n12 => ⟨fun n13 => ?_, fun n13 => ⟨fun n14 => ?_, fun n14 => ⟨fun n15 => ?_, fun n15 => lff ?_⟩⟩⟩⟩⟩⟩⟩⟩⟩⟩
    · have e6 : (¬ e.f0 = 5 ∧ ¬ e.f0 = 18 ∧ binOk e.f0 e.f2 (k0 e).f2 (k1 e)) ↔ e.f2 = ([116, 114, 117, 116, 104] : List UInt8) ∧ (k0 e).f2 = ([116, 114, 117, 116, 104] : List UInt8) ∧ (k1 e).f2 = ([116, 114, 117, 116, 104] : List UInt8) := by simp [binOk, n6]
      rw [dec_congr e6]
      refine ⟨fun a0 => ⟨fun a1 => lf ?_, fun a1 => lff ?_⟩, fun a0 => lff ?_⟩ <;> grind
    · have e6 : (¬ e.f0 = 5 ∧ ¬ e.f0 = 18 ∧ binOk e.f0 e.f2 (k0 e).f2 (k1 e)) ↔ e.f2 = ([116, 114, 117, 116, 104] : List UInt8) ∧ (k0 e).f2 = ([116, 114, 117, 116, 104] : List UInt8) ∧ (k1 e).f2 = ([116, 114, 117, 116, 104] : List UInt8) := by simp [binOk, n7]
      rw [dec_congr e6]
      refine ⟨fun a0 => ⟨fun a1 => lf ?_, fun a1 => lff ?_⟩, fun a0 => lff ?_⟩ <;> grind
    · have e6 : (¬ e.f0 = 5 ∧ ¬ e.f0 = 18 ∧ binOk e.f0 e.f2 (k0 e).f2 (k1 e)) ↔ e.f2 = ([116, 114, 117, 116, 104] : List UInt8) ∧ (k0 e).f2 = (k1 e).f2 := by simp [binOk, n8]
      rw [dec_congr e6]
      refine ⟨fun a0 => lf ?_, fun a0 => lff ?_⟩ <;> grind
    · have e6 : (¬ e.f0 = 5 ∧ ¬ e.f0 = 18 ∧ binOk e.f0 e.f2 (k0 e).f2 (k1 e)) ↔ e.f2 = ([116, 114, 117, 116, 104] : List UInt8) ∧ (k0 e).f2 = (k1 e).f2 ∧ ¬ (k0 e).f2 = ([116, 114, 117, 116, 104] : List UInt8) := by simp [binOk, n9]
      rw [dec_congr e6]
      refine ⟨fun a0 => ⟨fun a1 => lf ?_, fun a1 => lff ?_⟩, fun a0 => lff ?_⟩ <;> grind
    · have e6 : (¬ e.f0 = 5 ∧ ¬ e.f0 = 18 ∧ binOk e.f0 e.f2 (k0 e).f2 (k1 e)) ↔ e.f2 = ([116, 114, 117, 116, 104] : List UInt8) ∧ (k0 e).f2 = (k1 e).f2 ∧ ¬ (k0 e).f2 = ([116, 114, 117, 116, 104] : List UInt8) := by simp [binOk, n10]
      rw [dec_congr e6]
      refine ⟨fun a0 => ⟨fun a1 => lf ?_, fun a1 => lff ?_⟩, fun a0 => lff ?_⟩ <;> grind
    · have e6 : (¬ e.f0 = 5 ∧ ¬ e.f0 = 18 ∧ binOk e.f0 e.f2 (k0 e).f2 (k1 e)) ↔ e.f2 = (k0 e).f2 ∧ (k0 e).f2 = (k1 e).f2 ∧ ¬ (k0 e).f2 = ([116, 114, 117, 116, 104] : List UInt8) := by simp [binOk, n11]
      rw [dec_congr e6]
      refine ⟨fun a0 => ⟨fun a1 => lf ?_, fun a1 => lff ?_⟩, fun a0 => lff ?_⟩ <;> grind
    · have e6 : (¬ e.f0 = 5 ∧ ¬ e.f0 = 18 ∧ binOk e.f0 e.f2 (k0 e).f2 (k1 e)) ↔ e.f2 = (k0 e).f2 ∧ (k0 e).f2 = (k1 e).f2 ∧ ¬ (k0 e).f2 = ([116, 114, 117, 116, 104] : List UInt8) := by simp [binOk, n12]
      rw [dec_congr e6]
      refine ⟨fun a0 => ⟨fun a1 => lf ?_, fun a1 => lff ?_⟩, fun a0 => lff ?_⟩ <;> grind
    · have e6 : (¬ e.f0 = 5 ∧ ¬ e.f0 = 18 ∧ binOk e.f0 e.f2 (k0 e).f2 (k1 e)) ↔ ¬ (k0 e).f2 = ([116, 114, 117, 116, 104] : List UInt8) ∧ ¬ (k1 e).f2 = ([116, 114, 117, 116, 104] : List UInt8) ∧ ((k0 e).f2 = ([110, 117, 109, 98, 101, 114] : List UInt8) ∧ e.f2 = (k1 e).f2 ∨ (k1 e).f2 = ([110, 117, 109, 98, 101, 114] : List UInt8) ∧ e.f2 = (k0 e).f2) := by simp [binOk, n13]
      rw [dec_congr e6]
      refine ⟨fun a0 => ⟨fun a1 => ⟨fun a2 => ⟨fun a3 => ⟨fun a4 => lf ?_, fun a4 => lff ?_⟩, fun a3 => lf ?_⟩, fun a2 => ⟨fun a3 => lf ?_, fun a3 => lff ?_⟩⟩, fun a1 => lff ?_⟩, fun a0 => lff ?_⟩ <;> grind
    · have e6 : (¬ e.f0 = 5 ∧ ¬ e.f0 = 18 ∧ binOk e.f0 e.f2 (k0 e).f2 (k1 e)) ↔ e.f2 = (k0 e).f2 ∧ ¬ (k0 e).f2 = ([116, 114, 117, 116, 104] : List UInt8) ∧ (k1 e).f0 = 1 ∧ (k1 e).f2 = ([110, 117, 109, 98, 101, 114] : List UInt8) ∧ 1 ≤ (k1 e).f1 ∧ (k1 e).f1 ≤ 1000000 := by simp [binOk, n14]
      rw [dec_congr e6]
      have e1 : Int.toNat 1 = 1 := rfl
      simp only [e1, hk1]
      refine ⟨fun a0 => ⟨fun a1 => ⟨by omega, fun a2 => ⟨fun a3 => ⟨by omega, fun a4 => ⟨by omega, lf ?_⟩, fun a4 => lff ?_⟩, fun a3 => lff ?_⟩, fun a2 => lff ?_⟩, fun a1 => lff ?_⟩, fun a0 => lff ?_⟩ <;> grind
    · have e6 : (¬ e.f0 = 5 ∧ ¬ e.f0 = 18 ∧ binOk e.f0 e.f2 (k0 e).f2 (k1 e)) ↔ (k0 e).f2 = ([109, 105, 110, 117, 116, 101, 115] : List UInt8) ∧ curS (k1 e).f2 = true ∧ e.f2 = (k1 e).f2 := by simp [binOk, n15]
      rw [dec_congr e6]
      refine ⟨fun a0 => ⟨(curS (k1 e).f2 : Bool), call_PCur _, fun a1 => lf ?_, fun a1 => lff ?_⟩, fun a0 => lff ?_⟩
      · have a1 : curS (k1 e).f2 = true := a1
        grind
      · have a1 : curS (k1 e).f2 = false := a1
        grind
      · grind
    · simp [binOk, *]
  have loop : ∀ i, i ≤ e.f4.length → ((e.f0 = 16 ∨ e.f0 = 17) → ∀ k ∈ e.f4.take i, k.f2 = (k0 e).f2) → Runs EV X (RMany_4 (k0 e).f2 (k1 e).f2 (i : Int) e) (.bool (dec (opOk e))) [] := by
    refine down e.f4.length (fun i hi hi2 hk => ?_) (fun i hi ih _ hk => ?_)
    · refine runs_by (RMany_4_eq _ _ _ _) ?_
      rw [List.take_of_length_le hi] at hk
      have many : (e.f0 = 16 ∨ e.f0 = 17) → (opOk e ↔ ¬ (k0 e).f2 = ([116, 114, 117, 116, 104] : List UInt8) ∧ e.f2 = (k0 e).f2) := fun h => by
        have h5 : ¬ e.f0 = 5 := by omega
        have h18 : ¬ e.f0 = 18 := by omega
        unfold opOk
        rw [if_neg h5, if_neg h18, if_pos h]
        exact ⟨fun h => h.2.2, fun h2 => ⟨h2l, hk h, h2⟩⟩
      simp only [Tr.ok, nd_ok, and_true, true_and, Int.toNat_natCast, Bool.and_eq_true, Bool.or_eq_true, Bool.not_eq_true', Bool.not_eq_false', Bool.not_not, decide_eq_true_eq, decide_eq_false_iff_not, beq_iff_eq, beq_eq_false_iff_ne, ne_eq, Bool.false_eq_true, Bool.true_eq_false, false_implies, forall_const]
      refine ⟨fun h => by omega, fun _ => ⟨fun n16 => ⟨fun n17 => ⟨fun h1 => ?_, fun h1 => ?_⟩, fun n17 => ⟨fun h1 => lff ?_, fun h1 => t12 n16 n17 (by omega)⟩⟩, fun n16 => ⟨fun h1 => ?_, fun h1 => ?_⟩⟩⟩
      · rw [dec_congr (many (.inr n17))]; exact lf (by simp [h1])
      · rw [dec_congr (many (.inr n17))]; exact lff (by simp [h1])
      · unfold opOk
        by_cases n5 : e.f0 = 5
        · simp [n5]; omega
        · by_cases n18 : e.f0 = 18
          · simp [n18]; omega
          · simp [n5, n18, n16, n17]; omega
      · rw [dec_congr (many (.inl n16))]; exact lf (by simp [h1])
      · rw [dec_congr (many (.inl n16))]; exact lff (by simp [h1])
    · refine runs_by (RMany_4_eq _ _ _ _) ?_
      simp only [Tr.ok, nd_ok, and_true, true_and, Int.toNat_natCast, Bool.and_eq_true, Bool.or_eq_true, Bool.not_eq_true', Bool.not_eq_false', Bool.not_not, decide_eq_true_eq, decide_eq_false_iff_not, beq_iff_eq, beq_eq_false_iff_ne, ne_eq, Bool.false_eq_true, Bool.true_eq_false, false_implies, forall_const, getD_at hi]
      rw [wr (by omega) (by omega)]
      have nxt : ((e.f0 = 16 ∨ e.f0 = 17) → e.f4[i].f2 = (k0 e).f2) → Runs EV X (RMany_4 (k0 e).f2 (k1 e).f2 ((i : Int) + 1) e) (.bool (dec (opOk e))) [] := fun h => ih (by omega) fun ho k hkm => by
        rw [List.take_succ_eq_append_getElem hi, List.mem_append, List.mem_singleton] at hkm
        rcases hkm with hkm | rfl
        · exact hk ho k hkm
        · exact h ho
      have no : (e.f0 = 16 ∨ e.f0 = 17) → ¬ e.f4[i].f2 = (k0 e).f2 → ¬ opOk e := fun h hn ho => by
        have h5 : ¬ e.f0 = 5 := by omega
        have h18 : ¬ e.f0 = 18 := by omega
        unfold opOk at ho
        rw [if_neg h5, if_neg h18, if_pos h] at ho
        exact hn (ho.2.1 _ (List.getElem_mem hi))
      refine ⟨fun _ => ⟨fun n16 => ⟨fun n17 => ⟨by omega, fun h => lff (no (.inr n17) h), fun h => nxt fun _ => h⟩, fun n17 => nxt fun h => by omega⟩, fun n16 => ⟨by omega, fun h => lff (no (.inl n16) h), fun h => nxt fun _ => h⟩⟩, fun h => by omega⟩
  refine calld_run rfl (runs_by (RMany_0_eq e) ?_)
  simp only [Tr.ok, nd_ok, and_true, true_and, Int.toNat_natCast, Bool.and_eq_true, Bool.or_eq_true, Bool.not_eq_true', Bool.not_eq_false', Bool.not_not, decide_eq_true_eq, decide_eq_false_iff_not, beq_iff_eq, beq_eq_false_iff_ne, ne_eq, Bool.false_eq_true, Bool.true_eq_false, false_implies, forall_const]
  exact ⟨by omega, by omega, loop 0 (by omega) fun _ k hk => by simp at hk⟩
theorem call_Rfits (c : S31) (oc : okC c) : ∀ (e : S60), okE e → Calld EV X 109 [.agg (encT .n31 c), .agg (encT .n60 e)] [] (.bool (dec (nodeOk c e))) [] := by
  refine indE fun e ih oe => ?_
  have hl := oe.len
  have t8 : (∀ k ∈ e.f4, nodeOk c k) → (¬ (1 ≤ e.f0 ∧ e.f0 ≤ 4) → e.f1 = 0) → (e.f0 = 18 ∨ e.f3.f0 = 0 ∧ e.f3.f1 = []) → Runs EV X (Rfits_8 c e) (.bool (dec (nodeOk c e))) [] := by
    intro hk a1 a2
    have eiff : nodeOk c e ↔ (if 1 ≤ e.f0 ∧ e.f0 ≤ 4 then e.f4 = [] ∧ leafOk c e else opOk e) := by
      rw [nodeOk_iff]
      unfold localOk
      by_cases h14 : 1 ≤ e.f0 ∧ e.f0 ≤ 4
      · simp only [if_pos h14]; exact ⟨fun h => h.2.2, fun h => ⟨hk, a2, h⟩⟩
      · simp only [if_neg h14]; exact ⟨fun h => h.2.2.2, fun h => ⟨hk, a2, a1 h14, h⟩⟩
    rw [dec_congr eiff]
    refine runs_by (Rfits_8_eq _ _) ?_
    have hk0 : e.f4.getD (Int.toNat 0) d60 = k0 e := rfl
    simp only [Tr.ok, nd_ok, and_true, true_and, Int.toNat_natCast, Bool.and_eq_true, Bool.or_eq_true, Bool.not_eq_true', Bool.not_eq_false', Bool.not_not, decide_eq_true_eq, decide_eq_false_iff_not, beq_iff_eq, beq_eq_false_iff_ne, ne_eq, Bool.false_eq_true, Bool.true_eq_false, false_implies, forall_const, hk0]
    refine ⟨fun h0 => ⟨(dec (leafOk c e) : Bool), call_RLeaf c oc e, ?_⟩, fun h0 => ⟨fun h1 => ?_, fun h1 => ⟨(dec (opOk e) : Bool), call_RMany e oe (by omega), ?_⟩⟩⟩
    · have h0 : e.f4 = [] := List.eq_nil_of_length_eq_zero (by omega)
      congr 1
      refine dec_congr ?_
      by_cases h14 : 1 ≤ e.f0 ∧ e.f0 ≤ 4
      · simp only [if_pos h14, h0, true_and]
      · simp only [if_neg h14]
        have : ¬ opOk e := by simp [opOk, h0]
        have : ¬ leafOk c e := by
          unfold leafOk
          rw [if_neg (by omega), if_neg (by omega), if_neg (by omega), if_neg (by omega)]
          exact id
        simp [*]
    · have h1 : e.f4.length = 1 := by omega
      have hne : ¬ e.f4 = [] := fun h => by rw [h] at h1; cases h1
      have eo : (if 1 ≤ e.f0 ∧ e.f0 ≤ 4 then e.f4 = [] ∧ leafOk c e else opOk e) ↔ (e.f0 = 5 ∧ e.f2 = ([116, 114, 117, 116, 104] : List UInt8) ∧ (k0 e).f2 = ([116, 114, 117, 116, 104] : List UInt8)) ∨ (e.f0 = 18 ∧ e.f2 = (k0 e).f2 ∧ curS e.f2 = true ∧ tabS e.f3) := by
        by_cases h14 : 1 ≤ e.f0 ∧ e.f0 ≤ 4
        · simp only [if_pos h14, hne, false_and]
          refine ⟨fun h => h.elim, ?_⟩
          rintro (h | h) <;> omega
        · simp only [if_neg h14]
          unfold opOk
          by_cases n5 : e.f0 = 5
          · simp [n5, h1]
          · by_cases n18 : e.f0 = 18
            · simp [n18, h1]
            · simp [n5, n18, h1]
      rw [dec_congr eo]
      have t18 : (e.f0 = 18 → (0 ≤ 0 ∧ (0 : Int) < (e.f4.length : Int)) ∧ (e.f2 = (k0 e).f2 → ∃ r : SV.R 115, Calld EV X 115 [.str e.f2] [] (SV.res 115 r).1 (SV.res 115 r).2 ∧ (r = true → ∃ r' : SV.R 162, Calld EV X 162 [.agg (encT .n24 e.f3)] [] (SV.res 162 r').1 (SV.res 162 r').2 ∧ V.bool r' = V.bool (T := T) (dec (tabS e.f3))))) := fun n18 =>
        ⟨by omega, fun h => ⟨(curS e.f2 : Bool), call_PCur _, fun _ => ⟨(dec (tabS e.f3) : Bool), call_FValid _, rfl⟩⟩⟩
      have fin18 : e.f0 = 18 → (¬ e.f0 = 5) := fun h => by omega
      refine ⟨fun n5 => ⟨fun u => ⟨by omega, fun ku => ⟨fun n18 => by omega, fun n18 => lff ?_⟩, fun ku => ?_⟩, fun u => ⟨fun n18 => by omega, fun n18 => lff ?_⟩⟩, fun n5 => ⟨fun n18 => ⟨by omega, fun h => ⟨(curS e.f2 : Bool), call_PCur _, fun hc => ⟨(dec (tabS e.f3) : Bool), call_FValid _, ?_⟩, fun hc => lff ?_⟩, fun h => lff ?_⟩, fun n18 => lff ?_⟩⟩
      · rintro (h | h)
        · exact ku h.2.2
        · omega
      · rw [dec_true]; exact .inl ⟨n5, u, ku⟩
      · rintro (h | h)
        · exact u h.2.1
        · omega
      · have hc : curS e.f2 = true := hc
        congr 1
        refine dec_congr ⟨fun ht => .inr ⟨n18, h, hc, ht⟩, ?_⟩
        rintro (h | h)
        · omega
        · exact h.2.2.2
      · have hc : curS e.f2 = false := hc
        rintro (h | h)
        · omega
        · rw [h.2.2.1] at hc; cases hc
      · rintro (h2 | h2)
        · omega
        · exact h h2.2.1
      · rintro (h2 | h2)
        · exact n5 h2.1
        · exact n18 h2.1
    · congr 1
      refine dec_congr ?_
      by_cases h14 : 1 ≤ e.f0 ∧ e.f0 ≤ 4
      · have hne : ¬ e.f4 = [] := fun h => by rw [h] at h0; simp at h0
        simp only [if_pos h14, hne, false_and, iff_false]
        unfold opOk binOk
        rw [if_neg (by omega), if_neg (by omega), if_neg (by omega)]
        rintro ⟨_, h⟩
        rw [if_neg (by omega), if_neg (by omega), if_neg (by omega), if_neg (by omega), if_neg (by omega), if_neg (by omega), if_neg (by omega)] at h
        exact h
      · simp only [if_neg h14]
  have t6 : (∀ k ∈ e.f4, nodeOk c k) → Runs EV X (Rfits_6 c e) (.bool (dec (nodeOk c e))) [] := by
    intro hk
    refine runs_by (Rfits_6_eq _ _) ?_
    simp only [Tr.ok, nd_ok, and_true, true_and, Int.toNat_natCast, Bool.and_eq_true, Bool.or_eq_true, Bool.not_eq_true', Bool.not_eq_false', Bool.not_not, decide_eq_true_eq, decide_eq_false_iff_not, beq_iff_eq, beq_eq_false_iff_ne, ne_eq, Bool.false_eq_true, Bool.true_eq_false, false_implies, forall_const]
    have no1 : ¬ (1 ≤ e.f0 ∧ e.f0 ≤ 4) → ¬ e.f1 = 0 → V.bool (T := T) false = .bool (dec (nodeOk c e)) := fun h h1 => lff fun hn => by
      have := (nodeOk_iff.1 hn).2.2
      rw [if_neg h] at this
      exact h1 this.1
    have no2 : ¬ e.f0 = 18 → ¬ (e.f3.f0 = 0 ∧ (e.f3.f1.length : Int) = 0) → V.bool (T := T) false = .bool (dec (nodeOk c e)) := fun h h1 => lff fun hn => by
      rcases (nodeOk_iff.1 hn).2.1 with h2 | h2
      · exact h h2
      · exact h1 ⟨h2.1, by rw [h2.2]; rfl⟩
    have nil : (e.f3.f1.length : Int) = 0 → e.f3.f1 = [] := fun h => List.eq_nil_of_length_eq_zero (by omega)
    have t := t8 hk
    refine ⟨fun n1 => ⟨fun n2 => ⟨fun n3 => ⟨fun n4 => ⟨fun z => ⟨fun n18 => ⟨fun d => ⟨fun p => no2 n18 fun h => p h.2, fun p => t (fun _ => z) (.inr ⟨d, nil p⟩)⟩, fun d => no2 n18 fun h => d h.1⟩, fun n18 => t (fun _ => z) (.inl n18)⟩, fun z => no1 (by omega) z⟩,
      fun n4 => ⟨fun n18 => ⟨fun d => ⟨fun p => no2 n18 fun h => p h.2, fun p => t (fun h => by omega) (.inr ⟨d, nil p⟩)⟩, fun d => no2 n18 fun h => d h.1⟩, fun n18 => by omega⟩⟩,
      fun n3 => ⟨fun n18 => ⟨fun d => ⟨fun p => no2 n18 fun h => p h.2, fun p => t (fun h => by omega) (.inr ⟨d, nil p⟩)⟩, fun d => no2 n18 fun h => d h.1⟩, fun n18 => by omega⟩⟩,
      fun n2 => ⟨fun n18 => ⟨fun d => ⟨fun p => no2 n18 fun h => p h.2, fun p => t (fun h => by omega) (.inr ⟨d, nil p⟩)⟩, fun d => no2 n18 fun h => d h.1⟩, fun n18 => by omega⟩⟩,
      fun n1 => ⟨fun n18 => ⟨fun d => ⟨fun p => no2 n18 fun h => p h.2, fun p => t (fun h => by omega) (.inr ⟨d, nil p⟩)⟩, fun d => no2 n18 fun h => d h.1⟩, fun n18 => by omega⟩⟩
  have loop : ∀ i, i ≤ e.f4.length → (∀ k ∈ e.f4.take i, nodeOk c k) → Runs EV X (Rfits_2 (i : Int) c e) (.bool (dec (nodeOk c e))) [] := by
    refine down e.f4.length (fun i hi hi2 hk => ?_) (fun i hi ih2 _ hk => ?_)
    · refine runs_by (Rfits_2_eq _ _ _) ?_
      rw [List.take_of_length_le hi] at hk
      simp only [Tr.ok, nd_ok, and_true, true_and, Int.toNat_natCast, Bool.and_eq_true, Bool.or_eq_true, Bool.not_eq_true', Bool.not_eq_false', Bool.not_not, decide_eq_true_eq, decide_eq_false_iff_not, beq_iff_eq, beq_eq_false_iff_ne, ne_eq, Bool.false_eq_true, Bool.true_eq_false, false_implies, forall_const]
      exact ⟨fun h => by omega, fun _ => t6 hk⟩
    · refine runs_by (Rfits_2_eq _ _ _) ?_
      simp only [Tr.ok, nd_ok, and_true, true_and, Int.toNat_natCast, Bool.and_eq_true, Bool.or_eq_true, Bool.not_eq_true', Bool.not_eq_false', Bool.not_not, decide_eq_true_eq, decide_eq_false_iff_not, beq_iff_eq, beq_eq_false_iff_ne, ne_eq, Bool.false_eq_true, Bool.true_eq_false, false_implies, forall_const, getD_at hi]
      rw [wr (by omega) (by omega)]
      have hm := List.getElem_mem hi
      refine ⟨fun _ => ⟨by omega, (dec (nodeOk c e.f4[i]) : Bool), ih _ hm (oe.kid _ hm), fun h => ?_, fun h => ?_⟩, fun h => by omega⟩
      · have h : dec (nodeOk c e.f4[i]) = false := by simpa using h
        exact lff fun hn => dec_not.1 h ((nodeOk_iff.1 hn).1 _ hm)
      · have h : dec (nodeOk c e.f4[i]) = true := by simpa using h
        refine ih2 (by omega) fun k hkm => ?_
        rw [List.take_succ_eq_append_getElem hi, List.mem_append, List.mem_singleton] at hkm
        rcases hkm with hkm | rfl
        · exact hk k hkm
        · exact dec_iff.1 h
  refine calld_run rfl (runs_by (Rfits_0_eq c e) ?_)
  simp only [Tr.ok, nd_ok, and_true, true_and, Int.toNat_natCast, Bool.and_eq_true, Bool.or_eq_true, Bool.not_eq_true', Bool.not_eq_false', Bool.not_not, decide_eq_true_eq, decide_eq_false_iff_not, beq_iff_eq, beq_eq_false_iff_ne, ne_eq, Bool.false_eq_true, Bool.true_eq_false, false_implies, forall_const]
  exact loop 0 (by omega) fun k hk => by simp at hk
def fitsS (c : S31) (e : S60) : Prop := (nodes e ≤ 400 ∧ depthE e ≤ 40) ∧ nodeOk c e
theorem call_RFits (c : S31) (oc : okC c) (e : S60) (oe : okE e) : Calld EV X 64 [.agg (encT .n31 c), .agg (encT .n60 e)] [] (.bool (dec (fitsS c e))) [] := by
  refine calld_run rfl (runs_by (RFits_0_eq c e) ?_)
  simp only [Tr.ok, nd_ok, and_true, true_and, Int.toNat_natCast, Bool.and_eq_true, Bool.or_eq_true, Bool.not_eq_true', Bool.not_eq_false', Bool.not_not, decide_eq_true_eq, decide_eq_false_iff_not, beq_iff_eq, beq_eq_false_iff_ne, ne_eq, Bool.false_eq_true, Bool.true_eq_false, false_implies, forall_const]
  refine ⟨(dec (nodes e ≤ 400 ∧ depthE e ≤ 40) : Bool), call_RWithin e oe, fun h => ⟨(dec (nodeOk c e) : Bool), call_Rfits c oc e oe, ?_⟩, fun h => lff fun h2 => dec_not.1 h h2.1⟩
  congr 1
  exact dec_congr ⟨fun h2 => ⟨dec_iff.1 h, h2⟩, fun h2 => h2.2⟩
end Go.Proofs.YtnenfgpjedddoaaGreat.AI
