/- Layer 10: which version beats which, and the law on it. -/
import Derived.Test.YtnenfgpjedddoaaGreatAIL10a
import Derived.Test.YtnenfgpjedddoaaGreatAITc
import Derived.Test.YtnenfgpjedddoaaGreatAITd
set_option linter.unusedVariables false
set_option linter.unusedSimpArgs false
namespace Go.Proofs.YtnenfgpjedddoaaGreat.AI
open Go
variable {X : XX}

structure okEs (l : List S60) : Prop where
  len : l.length < 1000000000000000
  all : ∀ e ∈ l, okE e
theorem okA.okWhen {a : S62} (h : okA a) : okEs a.f6 := ⟨h.when, h.whens⟩
theorem call_EqPieces (a b : List S158) (hl : a.length < 1000000000000000) : Calld EV X 132 [.sl .n158 a .no, .sl .n158 b .no] [] (.bool (dec (a = b))) [] := by
  have loop : a.length = b.length → ∀ i, i ≤ a.length → Runs EV X (EqPieces_4 a b (a.length : Int) (i : Int)) (.bool (dec (a.drop i = b.drop i))) [] := by
    intro hb
    refine down a.length (fun i hi hi2 => ?_) (fun i hi ih _ => ?_)
    · refine runs_by (EqPieces_4_eq _ _ _ _) ?_
      simp only [Tr.ok, nd_ok, and_true, true_and, Int.toNat_natCast, Bool.and_eq_true, Bool.or_eq_true, Bool.not_eq_true', Bool.not_eq_false', Bool.not_not, decide_eq_true_eq, decide_eq_false_iff_not, beq_iff_eq, beq_eq_false_iff_ne, ne_eq, Bool.false_eq_true, Bool.true_eq_false, false_implies, forall_const]
      refine ⟨fun h => by omega, fun _ => ?_⟩
      rw [List.drop_eq_nil_of_le hi, List.drop_eq_nil_of_le (by omega), dec_true rfl]
    · have hi' : i < b.length := by omega
      refine runs_by (EqPieces_4_eq _ _ _ _) ?_
      simp only [Tr.ok, nd_ok, and_true, true_and, Int.toNat_natCast, Bool.and_eq_true, Bool.or_eq_true, Bool.not_eq_true', Bool.not_eq_false', Bool.not_not, decide_eq_true_eq, decide_eq_false_iff_not, beq_iff_eq, beq_eq_false_iff_ne, ne_eq, Bool.false_eq_true, Bool.true_eq_false, false_implies, forall_const, getD_at hi, getD_at hi']
      rw [dec_congr (drop_eq hi hi'), dec_and]
      refine ⟨fun _ => ⟨by omega, by omega, fun h => ?_, fun h => ?_⟩, fun h => by omega⟩
      · have : ¬ a[i] = b[i] := by
          intro hh; rw [hh] at h; simp at h
        rw [dec_false this, Bool.false_and]
      · have : a[i] = b[i] := by
          rw [S158.ext_iff']; exact h
        rw [dec_true this, Bool.true_and, wr (by omega) (by omega)]
        exact ih (by omega)
  refine calld_run rfl (runs_by (EqPieces_0_eq a b) ?_)
  simp only [Tr.ok, nd_ok, and_true, true_and, Int.toNat_natCast, Bool.and_eq_true, Bool.or_eq_true, Bool.not_eq_true', Bool.not_eq_false', Bool.not_not, decide_eq_true_eq, decide_eq_false_iff_not, beq_iff_eq, beq_eq_false_iff_ne, ne_eq, Bool.false_eq_true, Bool.true_eq_false, false_implies, forall_const]
  refine ⟨fun h => ?_, fun h => ?_⟩
  · rw [dec_false]
    intro e; rw [e] at h; simp at h
  · exact loop (by omega) 0 (by omega)
theorem call_EqF (a b : List S60) (hl : a.length < 1000000000000000) (hs : ∀ x ∈ a, ∀ y, Calld EV X 113 [.agg (encT .n60 x), .agg (encT .n60 y)] [] (.bool (dec (x = y))) []) :
    Calld EV X 165 [.sl .n60 a .no, .sl .n60 b .no, .fn 113 [] []] [] (.bool (dec (a = b))) [] := by
  have loop : a.length = b.length → ∀ i, i ≤ a.length → Runs EV X (EqF_4 b a (a.length : Int) (i : Int)) (.bool (dec (a.drop i = b.drop i))) [] := by
    intro hb
    refine down a.length (fun i hi hi2 => ?_) (fun i hi ih _ => ?_)
    · refine runs_by (EqF_4_eq _ _ _ _) ?_
      simp only [Tr.ok, nd_ok, and_true, true_and, Int.toNat_natCast, Bool.and_eq_true, Bool.or_eq_true, Bool.not_eq_true', Bool.not_eq_false', Bool.not_not, decide_eq_true_eq, decide_eq_false_iff_not, beq_iff_eq, beq_eq_false_iff_ne, ne_eq, Bool.false_eq_true, Bool.true_eq_false, false_implies, forall_const]
      refine ⟨fun h => by omega, fun _ => ?_⟩
      rw [List.drop_eq_nil_of_le hi, List.drop_eq_nil_of_le (by omega), dec_true rfl]
    · have hi' : i < b.length := by omega
      refine runs_by (EqF_4_eq _ _ _ _) ?_
      simp only [Tr.ok, nd_ok, and_true, true_and, Int.toNat_natCast, Bool.and_eq_true, Bool.or_eq_true, Bool.not_eq_true', Bool.not_eq_false', Bool.not_not, decide_eq_true_eq, decide_eq_false_iff_not, beq_iff_eq, beq_eq_false_iff_ne, ne_eq, Bool.false_eq_true, Bool.true_eq_false, false_implies, forall_const, getD_at hi, getD_at hi']
      rw [dec_congr (drop_eq hi hi'), dec_and]
      refine ⟨fun _ => ⟨by omega, by omega, (dec (a[i] = b[i]) : Bool), hs _ (List.getElem_mem hi) _, fun h => ?_, fun h => ?_⟩, fun h => by omega⟩
      · have h : dec (a[i] = b[i]) = false := by simpa using h
        rw [h, Bool.false_and]
      · have h : dec (a[i] = b[i]) = true := by simpa using h
        rw [h, Bool.true_and, wr (by omega) (by omega)]
        exact ih (by omega)
  refine calld_run rfl (runs_by (EqF_0_eq a b) ?_)
  simp only [Tr.ok, nd_ok, and_true, true_and, Int.toNat_natCast, Bool.and_eq_true, Bool.or_eq_true, Bool.not_eq_true', Bool.not_eq_false', Bool.not_not, decide_eq_true_eq, decide_eq_false_iff_not, beq_iff_eq, beq_eq_false_iff_ne, ne_eq, Bool.false_eq_true, Bool.true_eq_false, false_implies, forall_const]
  refine ⟨fun h => ?_, fun h => ?_⟩
  · rw [dec_false]
    intro e; rw [e] at h; simp at h
  · exact loop (by omega) 0 (by omega)
theorem call_CSame : ∀ (a : S60), okE a → ∀ b, Calld EV X 113 [.agg (encT .n60 a), .agg (encT .n60 b)] [] (.bool (dec (a = b))) [] := by
  refine indE fun a ih oa b => ?_
  obtain ⟨o1, o2, o3⟩ := oa
  refine calld_run rfl (runs_by (CSame_0_eq a b) ?_)
  simp only [Tr.ok, nd_ok, and_true, true_and, Int.toNat_natCast, Bool.and_eq_true, Bool.or_eq_true, Bool.not_eq_true', Bool.not_eq_false', Bool.not_not, decide_eq_true_eq, decide_eq_false_iff_not, beq_iff_eq, beq_eq_false_iff_ne, ne_eq, Bool.false_eq_true, Bool.true_eq_false, false_implies, forall_const]
  rw [dec_congr S60.ext_iff']
  have e24 : a.f3 = b.f3 ↔ a.f3.f0 = b.f3.f0 ∧ a.f3.f1 = b.f3.f1 := S24.ext_iff'
  refine ⟨fun h1 => ⟨fun h2 => ⟨fun h3 => ⟨fun h4 => ⟨(dec (a.f3.f1 = b.f3.f1) : Bool), call_EqPieces _ _ o2, fun h5 => ⟨(dec (a.f4 = b.f4) : Bool), call_EqF _ _ o1 fun x hx y => ih x hx (o3 x hx) y, ?_⟩, fun h5 => ?_⟩, fun h4 => ?_⟩, fun h3 => ?_⟩, fun h2 => ?_⟩, fun h1 => ?_⟩
  · have h5 := dec_iff.1 h5
    congr 1
    exact dec_congr (by simp [*])
  · have h5 := dec_not.1 h5
    rw [dec_false (by simp [*])]
  all_goals rw [dec_false (by simp [*])]
theorem call_CC2 (x : S60) (ox : okE x) (y : S60) : Calld EV X 112 [.agg (encT .n60 y), .ptr 0 0] [.box 60 (encT .n60 x)] (.bool (dec (x = y))) [.box 60 (encT .n60 x)] := by
  refine calld_run rfl (runs_by (CC2_0_eq y x) ?_)
  simp only [Tr.ok, nd_ok, and_true, true_and, Int.toNat_natCast, Bool.and_eq_true, Bool.or_eq_true, Bool.not_eq_true', Bool.not_eq_false', Bool.not_not, decide_eq_true_eq, decide_eq_false_iff_not, beq_iff_eq, beq_eq_false_iff_ne, ne_eq, Bool.false_eq_true, Bool.true_eq_false, false_implies, forall_const]
  exact ⟨(dec (x = y) : Bool), call_CSame x ox y, rfl⟩
theorem call_IFb (l : List S60) (hl : l.length < 1000000000000000) (x : S60) (ox : okE x) : ∃ r : Int, (0 ≤ r ↔ x ∈ l) ∧ Calld EV X 164 [.sl .n60 l .no, .fn 112 [] [.ptr 0 0]] [.box 60 (encT .n60 x)] (.int .i64 r) [.box 60 (encT .n60 x)] := by
  have loop : ∀ i, i ≤ l.length → ∃ r : Int, (0 ≤ r ↔ x ∈ l.drop i) ∧ Runs EV X (IFb_2 l (l.length : Int) (i : Int) x) (.int .i64 r) [.box 60 (encT .n60 x)] := by
    refine down l.length (fun i hi hi2 => ⟨-1, ?_, ?_⟩) (fun i hi ih _ => ?_)
    · rw [List.drop_eq_nil_of_le hi]; simp
    · refine runs_by (IFb_2_eq _ _ _ _) ?_
      simp only [Tr.ok, nd_ok, and_true, true_and, Int.toNat_natCast, Bool.and_eq_true, Bool.or_eq_true, Bool.not_eq_true', Bool.not_eq_false', Bool.not_not, decide_eq_true_eq, decide_eq_false_iff_not, beq_iff_eq, beq_eq_false_iff_ne, ne_eq, Bool.false_eq_true, Bool.true_eq_false, false_implies, forall_const]
      exact ⟨fun h => by omega, fun _ => trivial⟩
    · obtain ⟨r, hr, hruns⟩ := ih (by omega)
      rw [List.drop_eq_getElem_cons hi]
      by_cases hx : x = l[i]
      · refine ⟨i, by simp [← hx], runs_by (IFb_2_eq _ _ _ _) ?_⟩
        simp only [Tr.ok, nd_ok, and_true, true_and, Int.toNat_natCast, Bool.and_eq_true, Bool.or_eq_true, Bool.not_eq_true', Bool.not_eq_false', Bool.not_not, decide_eq_true_eq, decide_eq_false_iff_not, beq_iff_eq, beq_eq_false_iff_ne, ne_eq, Bool.false_eq_true, Bool.true_eq_false, false_implies, forall_const, getD_at hi]
        refine ⟨fun _ => ⟨by omega, ((dec (x = l[i]) : Bool), x), call_CC2 x ox _, fun h => rfl, fun h => ?_⟩, fun h => by omega⟩
        exact absurd hx (dec_not.1 h)
      · refine ⟨r, by rw [List.mem_cons]; simp only [hx, false_or]; exact hr, runs_by (IFb_2_eq _ _ _ _) ?_⟩
        simp only [Tr.ok, nd_ok, and_true, true_and, Int.toNat_natCast, Bool.and_eq_true, Bool.or_eq_true, Bool.not_eq_true', Bool.not_eq_false', Bool.not_not, decide_eq_true_eq, decide_eq_false_iff_not, beq_iff_eq, beq_eq_false_iff_ne, ne_eq, Bool.false_eq_true, Bool.true_eq_false, false_implies, forall_const, getD_at hi]
        refine ⟨fun _ => ⟨by omega, ((dec (x = l[i]) : Bool), x), call_CC2 x ox _, fun h => ?_, fun h => ?_⟩, fun h => by omega⟩
        · exact absurd (dec_iff.1 h) hx
        · rw [wr (by omega) (by omega)]; exact hruns
  obtain ⟨r, hr, h⟩ := loop 0 (by omega)
  refine ⟨r, by simpa using hr, calld_run rfl (runs_by (IFb_0_eq l x) ?_)⟩
  exact h
theorem call_CFb (l : List S60) (hl : l.length < 1000000000000000) (x : S60) (ox : okE x) : Calld EV X 110 [.sl .n60 l .no, .fn 112 [] [.ptr 0 0]] [.box 60 (encT .n60 x)] (.bool (dec (x ∈ l))) [.box 60 (encT .n60 x)] := by
  obtain ⟨r, hr, h⟩ := call_IFb (X := X) l hl x ox
  refine calld_run rfl (runs_by (CFb_0_eq l x) ?_)
  simp only [Tr.ok, nd_ok, and_true, true_and, Int.toNat_natCast, Bool.and_eq_true, Bool.or_eq_true, Bool.not_eq_true', Bool.not_eq_false', Bool.not_not, decide_eq_true_eq, decide_eq_false_iff_not, beq_iff_eq, beq_eq_false_iff_ne, ne_eq, Bool.false_eq_true, Bool.true_eq_false, false_implies, forall_const]
  refine ⟨((r : Int), x), h, ?_⟩
  rw [← dec_congr hr, dec_dec]
  exact ⟨rfl, rfl⟩
theorem call_CC1 (a : List S60) (hl : a.length < 1000000000000000) (x : S60) (ox : okE x) : Calld EV X 111 [.agg (encT .n60 x), .ptr 0 0] [.box 58 [.sl .n60 a .no]] (.bool (dec (¬ x ∈ a))) [.box 58 [.sl .n60 a .no]] := by
  refine calld_run rfl (runs_by (CC1_0_eq x a) ?_)
  simp only [Tr.ok, nd_ok, and_true, true_and, Int.toNat_natCast, Bool.and_eq_true, Bool.or_eq_true, Bool.not_eq_true', Bool.not_eq_false', Bool.not_not, decide_eq_true_eq, decide_eq_false_iff_not, beq_iff_eq, beq_eq_false_iff_ne, ne_eq, Bool.false_eq_true, Bool.true_eq_false, false_implies, forall_const]
  refine ⟨((dec (x ∈ a) : Bool), x), call_CFb a hl x ox, ?_⟩
  rw [dec_neg]
theorem call_IFa (l : List S60) (ol : okEs l) (a : List S60) (ha : a.length < 1000000000000000) : ∃ r : Int, (0 ≤ r ↔ ¬ ∀ x ∈ l, x ∈ a) ∧ Calld EV X 164 [.sl .n60 l .no, .fn 111 [] [.ptr 0 0]] [.box 58 [.sl .n60 a .no]] (.int .i64 r) [.box 58 [.sl .n60 a .no]] := by
  have hl := ol.len
  have loop : ∀ i, i ≤ l.length → ∃ r : Int, (0 ≤ r ↔ ¬ ∀ x ∈ l.drop i, x ∈ a) ∧ Runs EV X (IFa_2 l (l.length : Int) (i : Int) a) (.int .i64 r) [.box 58 [.sl .n60 a .no]] := by
    refine down l.length (fun i hi hi2 => ⟨-1, ?_, ?_⟩) (fun i hi ih _ => ?_)
    · rw [List.drop_eq_nil_of_le hi]; simp
    · refine runs_by (IFa_2_eq _ _ _ _) ?_
      simp only [Tr.ok, nd_ok, and_true, true_and, Int.toNat_natCast, Bool.and_eq_true, Bool.or_eq_true, Bool.not_eq_true', Bool.not_eq_false', Bool.not_not, decide_eq_true_eq, decide_eq_false_iff_not, beq_iff_eq, beq_eq_false_iff_ne, ne_eq, Bool.false_eq_true, Bool.true_eq_false, false_implies, forall_const]
      exact ⟨fun h => by omega, fun _ => trivial⟩
    · obtain ⟨r, hr, hruns⟩ := ih (by omega)
      rw [List.drop_eq_getElem_cons hi]
      have oi := ol.all _ (List.getElem_mem hi)
      by_cases hx : l[i] ∈ a
      · refine ⟨r, by simp only [List.mem_cons, forall_eq_or_imp, hx, true_and]; exact hr, runs_by (IFa_2_eq _ _ _ _) ?_⟩
        simp only [Tr.ok, nd_ok, and_true, true_and, Int.toNat_natCast, Bool.and_eq_true, Bool.or_eq_true, Bool.not_eq_true', Bool.not_eq_false', Bool.not_not, decide_eq_true_eq, decide_eq_false_iff_not, beq_iff_eq, beq_eq_false_iff_ne, ne_eq, Bool.false_eq_true, Bool.true_eq_false, false_implies, forall_const, getD_at hi]
        refine ⟨fun _ => ⟨by omega, ((dec (¬ l[i] ∈ a) : Bool), a), call_CC1 a ha _ oi, fun h => ?_, fun h => ?_⟩, fun h => by omega⟩
        · exact absurd hx (dec_iff.1 h)
        · rw [wr (by omega) (by omega)]; exact hruns
      · refine ⟨i, by simp only [List.mem_cons, forall_eq_or_imp, hx, false_and, not_false_eq_true, iff_true]; omega, runs_by (IFa_2_eq _ _ _ _) ?_⟩
        simp only [Tr.ok, nd_ok, and_true, true_and, Int.toNat_natCast, Bool.and_eq_true, Bool.or_eq_true, Bool.not_eq_true', Bool.not_eq_false', Bool.not_not, decide_eq_true_eq, decide_eq_false_iff_not, beq_iff_eq, beq_eq_false_iff_ne, ne_eq, Bool.false_eq_true, Bool.true_eq_false, false_implies, forall_const, getD_at hi]
        refine ⟨fun _ => ⟨by omega, ((dec (¬ l[i] ∈ a) : Bool), a), call_CC1 a ha _ oi, fun h => rfl, fun h => ?_⟩, fun h => by omega⟩
        exact absurd hx (dec_not.1 h)
  obtain ⟨r, hr, h⟩ := loop 0 (by omega)
  refine ⟨r, by simpa using hr, calld_run rfl (runs_by (IFa_0_eq l a) ?_)⟩
  exact h
/-- All of b are among a. -/
noncomputable def subE (a b : List S60) : Bool := dec (∀ x ∈ b, x ∈ a)
theorem call_CContains (a b : List S60) (ob : okEs b) (ha : a.length < 1000000000000000) : Calld EV X 65 [.sl .n60 a .no, .sl .n60 b .no] [] (.bool (subE a b)) [] := by
  obtain ⟨r, hr, h⟩ := call_IFa (X := X) b ob a ha
  have h2 : Calld EV X 110 [.sl .n60 b .no, .fn 111 [] [.ptr 0 0]] [.box 58 [.sl .n60 a .no]] (.bool (!subE a b)) [.box 58 [.sl .n60 a .no]] := by
    refine calld_run rfl (runs_by (CFa_0_eq b a) ?_)
    simp only [Tr.ok, nd_ok, and_true, true_and, Int.toNat_natCast, Bool.and_eq_true, Bool.or_eq_true, Bool.not_eq_true', Bool.not_eq_false', Bool.not_not, decide_eq_true_eq, decide_eq_false_iff_not, beq_iff_eq, beq_eq_false_iff_ne, ne_eq, Bool.false_eq_true, Bool.true_eq_false, false_implies, forall_const]
    refine ⟨((r : Int), a), h, ?_⟩
    unfold subE
    rw [← dec_neg, ← dec_congr hr, dec_dec]
    exact ⟨rfl, rfl⟩
  refine calld_run rfl (runs_by (CContains_0_eq a b) ?_)
  simp only [Tr.ok, nd_ok, and_true, true_and, Int.toNat_natCast, Bool.and_eq_true, Bool.or_eq_true, Bool.not_eq_true', Bool.not_eq_false', Bool.not_not, decide_eq_true_eq, decide_eq_false_iff_not, beq_iff_eq, beq_eq_false_iff_ne, ne_eq, Bool.false_eq_true, Bool.true_eq_false, false_implies, forall_const]
  refine ⟨((!subE a b : Bool), a), h2, ?_⟩
  simp
theorem call_LContains (a b : List S60) (ob : okEs b) (ha : a.length < 1000000000000000) : Calld EV X 35 [.sl .n60 a .no, .sl .n60 b .no] [] (.bool (subE a b)) [] := by
  have hb := ob.len
  have inner : ∀ (j : Nat) (x : S60), okE x → j < b.length → Runs EV X (LContains_2 a b (b.length : Int) ((j + 1 : Nat) : Int)) (.bool (dec (∀ x ∈ b.drop (j + 1), x ∈ a))) [] → ∀ i, i ≤ a.length → ∀ f : Bool,
      Runs EV X (LContains_6 a f b (b.length : Int) (j : Int) a (a.length : Int) (i : Int) x) (.bool (dec ((f = true ∨ x ∈ a.drop i) ∧ ∀ x ∈ b.drop (j + 1), x ∈ a))) [] := by
    intro j x ox hj h
    refine down a.length (fun i hi hi2 f => ?_) (fun i hi ih hi2 f => ?_)
    · refine runs_by (LContains_6_eq _ _ _ _ _ _ _ _ _) ?_
      simp only [Tr.ok, nd_ok, and_true, true_and, Int.toNat_natCast, Bool.and_eq_true, Bool.or_eq_true, Bool.not_eq_true', Bool.not_eq_false', Bool.not_not, decide_eq_true_eq, decide_eq_false_iff_not, beq_iff_eq, beq_eq_false_iff_ne, ne_eq, Bool.false_eq_true, Bool.true_eq_false, false_implies, forall_const]
      rw [List.drop_eq_nil_of_le hi]
      refine ⟨fun h => by omega, fun _ => ⟨fun h => ?_, fun hf => ?_⟩⟩
      · rw [dec_false]; simp [h]
      · rw [wr (by omega) (by omega)]
        have : dec ((f = true ∨ x ∈ []) ∧ ∀ x ∈ b.drop (j + 1), x ∈ a) = dec (∀ x ∈ b.drop (j + 1), x ∈ a) := dec_congr (by simp [hf])
        rw [this]; exact h
    · refine runs_by (LContains_6_eq _ _ _ _ _ _ _ _ _) ?_
      simp only [Tr.ok, nd_ok, and_true, true_and, Int.toNat_natCast, Bool.and_eq_true, Bool.or_eq_true, Bool.not_eq_true', Bool.not_eq_false', Bool.not_not, decide_eq_true_eq, decide_eq_false_iff_not, beq_iff_eq, beq_eq_false_iff_ne, ne_eq, Bool.false_eq_true, Bool.true_eq_false, false_implies, forall_const, getD_at hi]
      rw [List.drop_eq_getElem_cons hi, wr (x := (i : Int) + 1) (by omega) (by omega)]
      refine ⟨fun _ => ⟨by omega, fun hf => ⟨(dec (x = a[i]) : Bool), call_RSame _ ox _, ?_⟩, fun hf => ?_⟩, fun h => by omega⟩
      · have := ih (by omega) (dec (x = a[i]))
        have e : dec ((f = true ∨ x ∈ a[i] :: a.drop (i + 1)) ∧ ∀ x ∈ b.drop (j + 1), x ∈ a) = dec ((dec (x = a[i]) = true ∨ x ∈ a.drop (i + 1)) ∧ ∀ x ∈ b.drop (j + 1), x ∈ a) := dec_congr (by simp only [List.mem_cons, hf, dec_iff, Bool.false_eq_true, false_or])
        rw [e]; exact this
      · have := ih (by omega) true
        have e : dec ((f = true ∨ x ∈ a[i] :: a.drop (i + 1)) ∧ ∀ x ∈ b.drop (j + 1), x ∈ a) = dec ((true = true ∨ x ∈ a.drop (i + 1)) ∧ ∀ x ∈ b.drop (j + 1), x ∈ a) := dec_congr (by simp [hf])
        rw [e]; exact this
  have outer : ∀ j, j ≤ b.length → Runs EV X (LContains_2 a b (b.length : Int) (j : Int)) (.bool (dec (∀ x ∈ b.drop j, x ∈ a))) [] := by
    refine down b.length (fun j hj hj2 => ?_) (fun j hj ih _ => ?_)
    · refine runs_by (LContains_2_eq _ _ _ _) ?_
      simp only [Tr.ok, nd_ok, and_true, true_and, Int.toNat_natCast, Bool.and_eq_true, Bool.or_eq_true, Bool.not_eq_true', Bool.not_eq_false', Bool.not_not, decide_eq_true_eq, decide_eq_false_iff_not, beq_iff_eq, beq_eq_false_iff_ne, ne_eq, Bool.false_eq_true, Bool.true_eq_false, false_implies, forall_const]
      refine ⟨fun h => by omega, fun _ => ?_⟩
      rw [List.drop_eq_nil_of_le hj, dec_true (by simp)]
    · refine runs_by (LContains_2_eq _ _ _ _) ?_
      simp only [Tr.ok, nd_ok, and_true, true_and, Int.toNat_natCast, Bool.and_eq_true, Bool.or_eq_true, Bool.not_eq_true', Bool.not_eq_false', Bool.not_not, decide_eq_true_eq, decide_eq_false_iff_not, beq_iff_eq, beq_eq_false_iff_ne, ne_eq, Bool.false_eq_true, Bool.true_eq_false, false_implies, forall_const, getD_at hj]
      refine ⟨fun _ => ⟨by omega, ?_⟩, fun h => by omega⟩
      have := inner j b[j] (ob.all _ (List.getElem_mem hj)) hj (ih (by omega)) 0 (by omega) false
      rw [List.drop_eq_getElem_cons hj]
      have e : dec (∀ x ∈ b[j] :: b.drop (j + 1), x ∈ a) = dec ((false = true ∨ b[j] ∈ a.drop 0) ∧ ∀ x ∈ b.drop (j + 1), x ∈ a) := dec_congr (by simp only [List.mem_cons, forall_eq_or_imp, List.drop_zero, Bool.false_eq_true, false_or])
      rw [e]; exact this
  refine calld_run rfl (runs_by (LContains_0_eq a b) ?_)
  simp only [Tr.ok, nd_ok, and_true, true_and, Int.toNat_natCast, Bool.and_eq_true, Bool.or_eq_true, Bool.not_eq_true', Bool.not_eq_false', Bool.not_not, decide_eq_true_eq, decide_eq_false_iff_not, beq_iff_eq, beq_eq_false_iff_ne, ne_eq, Bool.false_eq_true, Bool.true_eq_false, false_implies, forall_const]
  exact outer 0 (by omega)
theorem call_RContains (a b : List S60) (oa : okEs a) (hb : b.length < 1000000000000000) : Calld EV X 66 [.sl .n60 a .no, .sl .n60 b .no] [] (.bool (subE a b)) [] := by
  have ha := oa.len
  have inner : ∀ (j : Nat) (hj : j < b.length), Runs EV X (RContains_2 a b ((j + 1 : Nat) : Int)) (.bool (dec (∀ x ∈ b.drop (j + 1), x ∈ a))) [] → ∀ i, i ≤ a.length → ∀ f : Bool,
      Runs EV X (RContains_6 a b (j : Int) f (i : Int)) (.bool (dec ((f = true ∨ b[j] ∈ a.drop i) ∧ ∀ x ∈ b.drop (j + 1), x ∈ a))) [] := by
    intro j hj h
    have fin : ∀ (f : Bool) (q : Prop), (¬ q ∨ f = true) → (f = false → V.bool (T := T) false = .bool (dec ((f = true ∨ q) ∧ ∀ x ∈ b.drop (j + 1), x ∈ a))) ∧ (f = true → Runs EV X (RContains_2 a b (IntKind.i64.wrap ((j : Int) + 1))) (.bool (dec ((f = true ∨ q) ∧ ∀ x ∈ b.drop (j + 1), x ∈ a))) []) := by
      intro f q hq
      refine ⟨fun hf => ?_, fun hf => ?_⟩
      · rcases hq with hq | hq
        · rw [dec_false (by simp [hf, hq])]
        · rw [hf] at hq; cases hq
      · rw [wr (by omega) (by omega)]
        have : dec ((f = true ∨ q) ∧ ∀ x ∈ b.drop (j + 1), x ∈ a) = dec (∀ x ∈ b.drop (j + 1), x ∈ a) := dec_congr (by simp [hf])
        rw [this]; exact h
    refine down a.length (fun i hi hi2 f => ?_) (fun i hi ih hi2 f => ?_)
    · refine runs_by (RContains_6_eq _ _ _ _ _) ?_
      simp only [Tr.ok, nd_ok, and_true, true_and, Int.toNat_natCast, Bool.and_eq_true, Bool.or_eq_true, Bool.not_eq_true', Bool.not_eq_false', Bool.not_not, decide_eq_true_eq, decide_eq_false_iff_not, beq_iff_eq, beq_eq_false_iff_ne, ne_eq, Bool.false_eq_true, Bool.true_eq_false, false_implies, forall_const]
      rw [List.drop_eq_nil_of_le hi]
      exact ⟨fun h => by omega, fun _ => fin f _ (.inl (by simp))⟩
    · refine runs_by (RContains_6_eq _ _ _ _ _) ?_
      simp only [Tr.ok, nd_ok, and_true, true_and, Int.toNat_natCast, Bool.and_eq_true, Bool.or_eq_true, Bool.not_eq_true', Bool.not_eq_false', Bool.not_not, decide_eq_true_eq, decide_eq_false_iff_not, beq_iff_eq, beq_eq_false_iff_ne, ne_eq, Bool.false_eq_true, Bool.true_eq_false, false_implies, forall_const, getD_at hi, getD_at hj]
      rw [List.drop_eq_getElem_cons hi, wr (x := (i : Int) + 1) (by omega) (by omega)]
      refine ⟨fun _ => ⟨fun hf => ⟨by omega, by omega, (dec (a[i] = b[j]) : Bool), call_RSame _ (oa.all _ (List.getElem_mem hi)) _, ?_⟩, fun hf => fin f _ (.inr hf)⟩, fun h => by omega⟩
      have := ih (by omega) (dec (a[i] = b[j]))
      have e : dec ((f = true ∨ b[j] ∈ a[i] :: a.drop (i + 1)) ∧ ∀ x ∈ b.drop (j + 1), x ∈ a) = dec ((dec (a[i] = b[j]) = true ∨ b[j] ∈ a.drop (i + 1)) ∧ ∀ x ∈ b.drop (j + 1), x ∈ a) := dec_congr (by
        have ec : (b[j] = a[i]) ↔ (a[i] = b[j]) := eq_comm
        simp only [List.mem_cons, hf, dec_iff, Bool.false_eq_true, false_or, ec])
      rw [e]; exact this
  have outer : ∀ j, j ≤ b.length → Runs EV X (RContains_2 a b (j : Int)) (.bool (dec (∀ x ∈ b.drop j, x ∈ a))) [] := by
    refine down b.length (fun j hj hj2 => ?_) (fun j hj ih _ => ?_)
    · refine runs_by (RContains_2_eq _ _ _) ?_
      simp only [Tr.ok, nd_ok, and_true, true_and, Int.toNat_natCast, Bool.and_eq_true, Bool.or_eq_true, Bool.not_eq_true', Bool.not_eq_false', Bool.not_not, decide_eq_true_eq, decide_eq_false_iff_not, beq_iff_eq, beq_eq_false_iff_ne, ne_eq, Bool.false_eq_true, Bool.true_eq_false, false_implies, forall_const]
      refine ⟨fun h => by omega, fun _ => ?_⟩
      rw [List.drop_eq_nil_of_le hj, dec_true (by simp)]
    · refine runs_by (RContains_2_eq _ _ _) ?_
      simp only [Tr.ok, nd_ok, and_true, true_and, Int.toNat_natCast, Bool.and_eq_true, Bool.or_eq_true, Bool.not_eq_true', Bool.not_eq_false', Bool.not_not, decide_eq_true_eq, decide_eq_false_iff_not, beq_iff_eq, beq_eq_false_iff_ne, ne_eq, Bool.false_eq_true, Bool.true_eq_false, false_implies, forall_const]
      refine ⟨fun _ => ?_, fun h => by omega⟩
      have := inner j hj (ih (by omega)) 0 (by omega) false
      rw [List.drop_eq_getElem_cons hj]
      have e : dec (∀ x ∈ b[j] :: b.drop (j + 1), x ∈ a) = dec ((false = true ∨ b[j] ∈ a.drop 0) ∧ ∀ x ∈ b.drop (j + 1), x ∈ a) := dec_congr (by simp only [List.mem_cons, forall_eq_or_imp, List.drop_zero, Bool.false_eq_true, false_or])
      rw [e]; exact this
  refine calld_run rfl (runs_by (RContains_0_eq a b) ?_)
  simp only [Tr.ok, nd_ok, and_true, true_and, Int.toNat_natCast, Bool.and_eq_true, Bool.or_eq_true, Bool.not_eq_true', Bool.not_eq_false', Bool.not_not, decide_eq_true_eq, decide_eq_false_iff_not, beq_iff_eq, beq_eq_false_iff_ne, ne_eq, Bool.false_eq_true, Bool.true_eq_false, false_implies, forall_const]
  exact outer 0 (by omega)
/-- A version prevails over another one. -/
noncomputable def beatsA (x y : S62) : Bool := if x.f1 = y.f1 ∧ ¬ x.f0 = y.f0 then (if x.f2 = y.f2 then (if subE x.f6 y.f6 = subE y.f6 x.f6 then decide (y.f5 < x.f5) else subE x.f6 y.f6) else decide (y.f2 < x.f2)) else false
noncomputable def beatsS (c : S31) (a b : Int) : Bool := if 0 ≤ a ∧ 0 ≤ b ∧ a < c.f2.length ∧ b < c.f2.length then beatsA (c.f2.getD a.toNat d62) (c.f2.getD b.toNat d62) else false
theorem at_ok {c : S31} (oc : okC c) {a : Int} (h0 : 0 ≤ a) (h : a < c.f2.length) : okA (c.f2.getD a.toNat d62) := by
  have : a.toNat < c.f2.length := by omega
  rw [getD_at this]
  exact oc.art _ (List.getElem_mem this)
theorem call_CBeats (c : S31) (oc : okC c) (a b : Int) : Calld EV X 24 [.agg (encT .n31 c), .int .i64 a, .int .i64 b] [] (.bool (beatsS c a b)) [] := by
  refine calld_run rfl (runs_by (CBeats_0_eq c a b) ?_)
  simp only [Tr.ok, nd_ok, and_true, true_and, Int.toNat_natCast, Bool.and_eq_true, Bool.or_eq_true, Bool.not_eq_true', Bool.not_eq_false', Bool.not_not, decide_eq_true_eq, decide_eq_false_iff_not, beq_iff_eq, beq_eq_false_iff_ne, ne_eq, Bool.false_eq_true, Bool.true_eq_false, false_implies, forall_const]
  unfold beatsS
  refine ⟨fun h1 => ⟨fun h2 => ?_, fun h2 => ?_⟩, fun h1 => ?_⟩
  · rw [if_neg]; split at h1 <;> split at h2 <;> omega
  · have hr : 0 ≤ a ∧ 0 ≤ b ∧ a < c.f2.length ∧ b < c.f2.length := by split at h1 <;> split at h2 <;> omega
    rw [if_pos hr]
    have oa := at_ok oc hr.1 hr.2.2.1
    have ob := at_ok oc hr.2.1 hr.2.2.2
    generalize c.f2.getD a.toNat d62 = x at *
    generalize c.f2.getD b.toNat d62 = y at *
    unfold beatsA
    refine ⟨⟨hr.1, hr.2.2.1⟩, ⟨hr.2.1, hr.2.2.2⟩, fun h1 => ⟨fun h2 => ?_, fun h2 => ⟨fun h3 => ?_, fun h3 => ⟨(subE x.f6 y.f6 : Bool), call_CContains _ _ ob.okWhen oa.when, (subE y.f6 x.f6 : Bool), call_CContains _ _ oa.okWhen ob.when, fun h4 => ?_, fun h4 => ?_⟩⟩⟩, fun h1 => ?_⟩
    · simp [h1, h2]
    · simp [h1, h2, h3]
    · rw [if_pos ⟨h1, h2⟩, if_pos h3, if_neg (by simpa using h4)]
    · rw [if_pos ⟨h1, h2⟩, if_pos h3, if_pos (by simpa using h4)]
    · simp [h1]
  · rw [if_neg]; split at h1 <;> omega
theorem call_RBeats (c : S31) (oc : okC c) (a b : Int) : Calld EV X 25 [.agg (encT .n31 c), .int .i64 a, .int .i64 b] [] (.bool (beatsS c a b)) [] := by
  refine calld_run rfl (runs_by (RBeats_0_eq c a b) ?_)
  simp only [Tr.ok, nd_ok, and_true, true_and, Int.toNat_natCast, Bool.and_eq_true, Bool.or_eq_true, Bool.not_eq_true', Bool.not_eq_false', Bool.not_not, decide_eq_true_eq, decide_eq_false_iff_not, beq_iff_eq, beq_eq_false_iff_ne, ne_eq, Bool.false_eq_true, Bool.true_eq_false, false_implies, forall_const]
  unfold beatsS
  refine ⟨fun h1 => ⟨fun h2 => ⟨fun h3 => ⟨fun h4 => ?_, fun h4 => ?_⟩, fun h3 => ?_⟩, fun h2 => ?_⟩, fun h1 => ?_⟩
  · rw [if_neg (by omega)]
  · have hr : 0 ≤ a ∧ 0 ≤ b ∧ a < c.f2.length ∧ b < c.f2.length := by omega
    rw [if_pos hr]
    have oa := at_ok oc hr.1 hr.2.2.1
    have ob := at_ok oc hr.2.1 hr.2.2.2
    generalize c.f2.getD a.toNat d62 = x at *
    generalize c.f2.getD b.toNat d62 = y at *
    unfold beatsA
    refine ⟨⟨hr.1, hr.2.2.1⟩, ⟨hr.2.1, hr.2.2.2⟩, fun h1 => ⟨fun h2 => ?_, fun h2 => ⟨fun h3 => ?_, fun h3 => ⟨(subE x.f6 y.f6 : Bool), call_RContains _ _ oa.okWhen ob.when, (subE y.f6 x.f6 : Bool), call_RContains _ _ ob.okWhen oa.when, fun h4 => ?_, fun h4 => ?_⟩⟩⟩, fun h1 => ?_⟩
    · simp [h1, h2]
    · simp [h1, h2, h3]
    · rw [if_pos ⟨h1, h2⟩, if_pos h3, if_neg (by simpa using h4)]
    · rw [if_pos ⟨h1, h2⟩, if_pos h3, if_pos (by simpa using h4)]
    · simp [h1]
  · rw [if_neg (by omega)]
  · rw [if_neg (by omega)]
  · rw [if_neg (by omega)]
end Go.Proofs.YtnenfgpjedddoaaGreat.AI
