/- Layer 10: names, units, declarations: both sides. -/
import Derived.Test.YtnenfgpjedddoaaGreatAIPV10
import Derived.Test.YtnenfgpjedddoaaGreatAIL10c
import Derived.Test.YtnenfgpjedddoaaGreatAITe
import Derived.Test.YtnenfgpjedddoaaGreatAITf
set_option linter.unusedVariables false
set_option linter.unusedSimpArgs false
namespace Go.Proofs.YtnenfgpjedddoaaGreat.AI
open Go
variable {X : XX}

theorem call_Lower (x : Int) : Calld EV X 158 [.int .u8 x] [] (.bool (loB x)) [] := by
  refine calld_run rfl (runs_by (Lower_0_eq x) ?_)
  simp only [Tr.ok, nd_ok, and_true, true_and, Int.toNat_natCast, Bool.and_eq_true, Bool.or_eq_true, Bool.not_eq_true', Bool.not_eq_false', Bool.not_not, decide_eq_true_eq, decide_eq_false_iff_not, beq_iff_eq, beq_eq_false_iff_ne, ne_eq, Bool.false_eq_true, Bool.true_eq_false, false_implies, forall_const]
  unfold loB
  exact ⟨fun h => by simp [h], fun h => by simp [h]⟩
theorem call_Digit (x : Int) : Calld EV X 160 [.int .u8 x] [] (.bool (diB x)) [] := by
  refine calld_run rfl (runs_by (Digit_0_eq x) ?_)
  simp only [Tr.ok, nd_ok, and_true, true_and, Int.toNat_natCast, Bool.and_eq_true, Bool.or_eq_true, Bool.not_eq_true', Bool.not_eq_false', Bool.not_not, decide_eq_true_eq, decide_eq_false_iff_not, beq_iff_eq, beq_eq_false_iff_ne, ne_eq, Bool.false_eq_true, Bool.true_eq_false, false_implies, forall_const]
  unfold diB
  exact ⟨fun h => by simp [h], fun h => by simp [h]⟩
theorem call_Upper (x : Int) : Calld EV X 166 [.int .u8 x] [] (.bool (upB x)) [] := by
  refine calld_run rfl (runs_by (Upper_0_eq x) ?_)
  simp only [Tr.ok, nd_ok, and_true, true_and, Int.toNat_natCast, Bool.and_eq_true, Bool.or_eq_true, Bool.not_eq_true', Bool.not_eq_false', Bool.not_not, decide_eq_true_eq, decide_eq_false_iff_not, beq_iff_eq, beq_eq_false_iff_ne, ne_eq, Bool.false_eq_true, Bool.true_eq_false, false_implies, forall_const]
  unfold upB
  exact ⟨fun h => by simp [h], fun h => by simp [h]⟩
theorem call_PIn (l : List (List UInt8)) (hl : l.length < 1000000000000000) (s : List UInt8) : Calld EV X 116 [.sl .n9 l .no, .str s] [] (.bool (dec (s ∈ l))) [] := by
  have loop : ∀ i, i ≤ l.length → Runs EV X (PIn_2 l s (i : Int)) (.bool (dec (s ∈ l.drop i))) [] := by
    refine down l.length (fun i hi hi2 => ?_) (fun i hi ih _ => ?_)
    · refine runs_by (PIn_2_eq _ _ _) ?_
      simp only [Tr.ok, nd_ok, and_true, true_and, Int.toNat_natCast, Bool.and_eq_true, Bool.or_eq_true, Bool.not_eq_true', Bool.not_eq_false', Bool.not_not, decide_eq_true_eq, decide_eq_false_iff_not, beq_iff_eq, beq_eq_false_iff_ne, ne_eq, Bool.false_eq_true, Bool.true_eq_false, false_implies, forall_const]
      rw [List.drop_eq_nil_of_le hi]
      exact ⟨fun h => by omega, fun _ => by rw [dec_false (by simp)]⟩
    · refine runs_by (PIn_2_eq _ _ _) ?_
      simp only [Tr.ok, nd_ok, and_true, true_and, Int.toNat_natCast, Bool.and_eq_true, Bool.or_eq_true, Bool.not_eq_true', Bool.not_eq_false', Bool.not_not, decide_eq_true_eq, decide_eq_false_iff_not, beq_iff_eq, beq_eq_false_iff_ne, ne_eq, Bool.false_eq_true, Bool.true_eq_false, false_implies, forall_const, getD_at hi]
      rw [List.drop_eq_getElem_cons hi]
      refine ⟨fun _ => ⟨by omega, fun h => ?_, fun h => ?_⟩, fun h => by omega⟩
      · rw [dec_true (List.mem_cons.2 (.inl h.symm))]
      · rw [wr (by omega) (by omega)]
        have : dec (s ∈ l[i] :: l.drop (i + 1)) = dec (s ∈ l.drop (i + 1)) := dec_congr (by rw [List.mem_cons]; exact ⟨fun e => e.resolve_left (Ne.symm h), .inr⟩)
        rw [this]; exact ih (by omega)
  refine calld_run rfl (runs_by (PIn_0_eq l s) ?_)
  simp only [Tr.ok, nd_ok, and_true, true_and, Int.toNat_natCast, Bool.and_eq_true, Bool.or_eq_true, Bool.not_eq_true', Bool.not_eq_false', Bool.not_not, decide_eq_true_eq, decide_eq_false_iff_not, beq_iff_eq, beq_eq_false_iff_ne, ne_eq, Bool.false_eq_true, Bool.true_eq_false, false_implies, forall_const]
  exact loop 0 (by omega)
theorem call_PKeys : Calld EV X 159 [] [] (.sl .n9 keysS .no) [] := by
  refine calld_run rfl (runs_by PKeys_0_eq ?_)
  simp only [Tr.ok, nd_ok, and_true, true_and, Int.toNat_natCast, Bool.and_eq_true, Bool.or_eq_true, Bool.not_eq_true', Bool.not_eq_false', Bool.not_not, decide_eq_true_eq, decide_eq_false_iff_not, beq_iff_eq, beq_eq_false_iff_ne, ne_eq, Bool.false_eq_true, Bool.true_eq_false, false_implies, forall_const]
  rfl
theorem call_PName (s : List UInt8) (hs : s.length < 1000000000000000) : Calld EV X 107 [.str s] [] (.bool (nameS s)) [] := by
  have loop : ∀ i, i ≤ s.length → Runs EV X (PName_4 s (i : Int)) (.bool ((s.drop i).all fun x => naB x.toNat)) [] := by
    refine down s.length (fun i hi hi2 => ?_) (fun i hi ih _ => ?_)
    · refine runs_by (PName_4_eq _ _) ?_
      simp only [Tr.ok, nd_ok, and_true, true_and, Int.toNat_natCast, Bool.and_eq_true, Bool.or_eq_true, Bool.not_eq_true', Bool.not_eq_false', Bool.not_not, decide_eq_true_eq, decide_eq_false_iff_not, beq_iff_eq, beq_eq_false_iff_ne, ne_eq, Bool.false_eq_true, Bool.true_eq_false, false_implies, forall_const]
      rw [List.drop_eq_nil_of_le hi]
      exact ⟨fun h => by omega, fun _ => rfl⟩
    · refine runs_by (PName_4_eq _ _) ?_
      simp only [Tr.ok, nd_ok, and_true, true_and, Int.toNat_natCast, Bool.and_eq_true, Bool.or_eq_true, Bool.not_eq_true', Bool.not_eq_false', Bool.not_not, decide_eq_true_eq, decide_eq_false_iff_not, beq_iff_eq, beq_eq_false_iff_ne, ne_eq, Bool.false_eq_true, Bool.true_eq_false, false_implies, forall_const, getD_at hi]
      rw [List.drop_eq_getElem_cons hi, List.all_cons, wr (by omega) (by omega)]
      refine ⟨fun _ => ⟨by omega, (loB s[i].toNat : Bool), call_Lower _, fun h1 => ⟨by omega, (diB s[i].toNat : Bool), call_Digit _, fun h2 => ⟨by omega, fun h3 => ?_, fun h3 => ?_⟩, fun h2 => ?_⟩, fun h1 => ?_⟩, fun h => by omega⟩
      · have h1 : loB s[i].toNat = false := by simpa using h1
        have h2 : diB s[i].toNat = false := by simpa using h2
        rw [naB, h1, h2]; simp [h3]
      · have : naB s[i].toNat = true := by simp [naB, h3]
        rw [this]; exact ih (by omega)
      · have h2 : diB s[i].toNat = true := by simpa using h2
        have : naB s[i].toNat = true := by simp [naB, h2]
        rw [this]; exact ih (by omega)
      · have h1 : loB s[i].toNat = true := by simpa using h1
        have : naB s[i].toNat = true := by simp [naB, h1]
        rw [this]; exact ih (by omega)
  refine calld_run rfl (runs_by (PName_0_eq s) ?_)
  simp only [Tr.ok, nd_ok, and_true, true_and, Int.toNat_natCast, Bool.and_eq_true, Bool.or_eq_true, Bool.not_eq_true', Bool.not_eq_false', Bool.not_not, decide_eq_true_eq, decide_eq_false_iff_not, beq_iff_eq, beq_eq_false_iff_ne, ne_eq, Bool.false_eq_true, Bool.true_eq_false, false_implies, forall_const]
  unfold nameS
  refine ⟨fun h1 => ⟨fun h2 => ⟨by omega, (loB (s.getD 0 0).toNat : Bool), call_Lower _, fun h3 => ⟨keysS, call_PKeys, (dec (s ∈ keysS) : Bool), call_PIn _ (by decide) _, fun h4 => ?_, fun h4 => ?_⟩, fun h3 => ?_⟩, fun h2 => ?_⟩, fun h1 => ?_⟩
  · rw [show dec (s ∈ keysS) = true from h4]; simp
  · have h3 : loB (s.getD 0 0).toNat = true := by simpa using h3
    have h1' : (1 : Nat) ≤ s.length := by omega
    have h2' : s.length ≤ 16 := by omega
    rw [show dec (s ∈ keysS) = false from h4, h3]
    simp only [h1', h2', decide_true, Bool.true_and, Bool.not_false]
    exact loop 0 (by omega)
  · have h3 : loB (s.getD 0 0).toNat = false := by simpa using h3
    rw [h3]; simp
  · have h2' : ¬ s.length ≤ 16 := by omega
    simp [h2']
  · have h1' : ¬ 1 ≤ s.length := by omega
    simp [h1']
theorem all3 {s : List UInt8} (h : s.length = 3) (p : UInt8 → Bool) : s.all p = (p (s.getD 0 0) && (p (s.getD 1 0) && p (s.getD 2 0))) := by
  match s, h with
  | [a, b, c], _ => simp [List.getD]
theorem call_PCur (s : List UInt8) : Calld EV X 115 [.str s] [] (.bool (curS s)) [] := by
  refine calld_run rfl (runs_by (PCur_0_eq s) ?_)
  simp only [Tr.ok, nd_ok, and_true, true_and, Int.toNat_natCast, Bool.and_eq_true, Bool.or_eq_true, Bool.not_eq_true', Bool.not_eq_false', Bool.not_not, decide_eq_true_eq, decide_eq_false_iff_not, beq_iff_eq, beq_eq_false_iff_ne, ne_eq, Bool.false_eq_true, Bool.true_eq_false, false_implies, forall_const]
  unfold curS
  refine ⟨fun h0 => ⟨by omega, (upB (s.getD 0 0).toNat : Bool), call_Upper _, fun h1 => ⟨by omega, (upB (s.getD 1 0).toNat : Bool), call_Upper _, fun h2 => ⟨by omega, (upB (s.getD 2 0).toNat : Bool), call_Upper _, ?_⟩, fun h2 => ?_⟩, fun h1 => ?_⟩, fun h0 => ?_⟩
  · have h0 : s.length = 3 := by omega
    rw [all3 h0, show upB (s.getD 0 0).toNat = true from h1, show upB (s.getD 1 0).toNat = true from h2]
    simp [h0]
  · have h0 : s.length = 3 := by omega
    rw [all3 h0, show upB (s.getD 0 0).toNat = true from h1, show upB (s.getD 1 0).toNat = false from h2]
    simp
  · have h0 : s.length = 3 := by omega
    rw [all3 h0, show upB (s.getD 0 0).toNat = false from h1]
    simp
  · have h0 : ¬ s.length = 3 := by omega
    simp [h0]
theorem call_RUnit (s : List UInt8) : Calld EV X 108 [.str s] [] (.bool (unitS s)) [] := by
  refine calld_run rfl (runs_by (RUnit_0_eq s) ?_)
  simp only [Tr.ok, nd_ok, and_true, true_and, Int.toNat_natCast, Bool.and_eq_true, Bool.or_eq_true, Bool.not_eq_true', Bool.not_eq_false', Bool.not_not, decide_eq_true_eq, decide_eq_false_iff_not, beq_iff_eq, beq_eq_false_iff_ne, ne_eq, Bool.false_eq_true, Bool.true_eq_false, false_implies, forall_const]
  unfold unitS
  refine ⟨fun h1 => ⟨fun h2 => ⟨fun h3 => ⟨(curS s : Bool), call_PCur s, ?_⟩, fun h3 => ?_⟩, fun h2 => ?_⟩, fun h1 => ?_⟩
  all_goals simp [*]
theorem call_RDecl (l : List S57) (hl : l.length < 1000000000000000) (s : List UInt8) : Calld EV X 95 [.sl .n57 l .no, .str s] [] (.int .i64 (idxS (fun d => decide (d.f0 = s)) l)) [] := by
  have loop : ∀ i, i ≤ l.length → (∀ j (hj : j < i) (hl : j < l.length), ¬ l[j].f0 = s) → Runs EV X (RDecl_2 l s (i : Int)) (.int .i64 (idxS (fun d => decide (d.f0 = s)) l)) [] := by
    refine down l.length (fun i hi hi2 hn => ?_) (fun i hi ih _ hn => ?_)
    · refine runs_by (RDecl_2_eq _ _ _) ?_
      simp only [Tr.ok, nd_ok, and_true, true_and, Int.toNat_natCast, Bool.and_eq_true, Bool.or_eq_true, Bool.not_eq_true', Bool.not_eq_false', Bool.not_not, decide_eq_true_eq, decide_eq_false_iff_not, beq_iff_eq, beq_eq_false_iff_ne, ne_eq, Bool.false_eq_true, Bool.true_eq_false, false_implies, forall_const]
      refine ⟨fun h => by omega, fun _ => ?_⟩
      rw [idxS_none fun j hj => by simp [hn j (by omega) hj]]
    · refine runs_by (RDecl_2_eq _ _ _) ?_
      simp only [Tr.ok, nd_ok, and_true, true_and, Int.toNat_natCast, Bool.and_eq_true, Bool.or_eq_true, Bool.not_eq_true', Bool.not_eq_false', Bool.not_not, decide_eq_true_eq, decide_eq_false_iff_not, beq_iff_eq, beq_eq_false_iff_ne, ne_eq, Bool.false_eq_true, Bool.true_eq_false, false_implies, forall_const, getD_at hi]
      refine ⟨fun _ => ⟨by omega, fun h => ?_, fun h => ?_⟩, fun h => by omega⟩
      · rw [idxS_at hi (by simp [h]) fun j hj => by simp [hn j hj (by omega)]]
      · rw [wr (by omega) (by omega)]
        refine ih (by omega) fun j hj hl => ?_
        by_cases e : j = i
        · subst e; exact h
        · exact hn j (by omega) hl
  refine calld_run rfl (runs_by (RDecl_0_eq l s) ?_)
  simp only [Tr.ok, nd_ok, and_true, true_and, Int.toNat_natCast, Bool.and_eq_true, Bool.or_eq_true, Bool.not_eq_true', Bool.not_eq_false', Bool.not_not, decide_eq_true_eq, decide_eq_false_iff_not, beq_iff_eq, beq_eq_false_iff_ne, ne_eq, Bool.false_eq_true, Bool.true_eq_false, false_implies, forall_const]
  exact loop 0 (by omega) fun j hj => by omega
theorem call_RNumbered (c : S31) (hl : c.f2.length < 1000000000000000) (n : Int) : Calld EV X 63 [.agg (encT .n31 c), .int .i64 n] [] (.int .i64 (idxS (fun a => decide (a.f0 = n)) c.f2)) [] := by
  have loop : ∀ i, i ≤ c.f2.length → (∀ j (hj : j < i) (hl : j < c.f2.length), ¬ c.f2[j].f0 = n) → Runs EV X (RNumbered_2 n (i : Int) c) (.int .i64 (idxS (fun a => decide (a.f0 = n)) c.f2)) [] := by
    refine down c.f2.length (fun i hi hi2 hn => ?_) (fun i hi ih _ hn => ?_)
    · refine runs_by (RNumbered_2_eq _ _ _) ?_
      simp only [Tr.ok, nd_ok, and_true, true_and, Int.toNat_natCast, Bool.and_eq_true, Bool.or_eq_true, Bool.not_eq_true', Bool.not_eq_false', Bool.not_not, decide_eq_true_eq, decide_eq_false_iff_not, beq_iff_eq, beq_eq_false_iff_ne, ne_eq, Bool.false_eq_true, Bool.true_eq_false, false_implies, forall_const]
      refine ⟨fun h => by omega, fun _ => ?_⟩
      rw [idxS_none fun j hj => by simp [hn j (by omega) hj]]
    · refine runs_by (RNumbered_2_eq _ _ _) ?_
      simp only [Tr.ok, nd_ok, and_true, true_and, Int.toNat_natCast, Bool.and_eq_true, Bool.or_eq_true, Bool.not_eq_true', Bool.not_eq_false', Bool.not_not, decide_eq_true_eq, decide_eq_false_iff_not, beq_iff_eq, beq_eq_false_iff_ne, ne_eq, Bool.false_eq_true, Bool.true_eq_false, false_implies, forall_const, getD_at hi]
      refine ⟨fun _ => ⟨by omega, fun h => ?_, fun h => ?_⟩, fun h => by omega⟩
      · rw [idxS_at hi (by simp [h]) fun j hj => by simp [hn j hj (by omega)]]
      · rw [wr (by omega) (by omega)]
        refine ih (by omega) fun j hj hl => ?_
        by_cases e : j = i
        · subst e; exact h
        · exact hn j (by omega) hl
  refine calld_run rfl (runs_by (RNumbered_0_eq c n) ?_)
  simp only [Tr.ok, nd_ok, and_true, true_and, Int.toNat_natCast, Bool.and_eq_true, Bool.or_eq_true, Bool.not_eq_true', Bool.not_eq_false', Bool.not_not, decide_eq_true_eq, decide_eq_false_iff_not, beq_iff_eq, beq_eq_false_iff_ne, ne_eq, Bool.false_eq_true, Bool.true_eq_false, false_implies, forall_const]
  exact loop 0 (by omega) fun j hj => by omega
end Go.Proofs.YtnenfgpjedddoaaGreat.AI
