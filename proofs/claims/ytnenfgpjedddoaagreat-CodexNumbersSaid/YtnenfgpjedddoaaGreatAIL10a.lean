/- Layer 10: counting, comparing, versions: what the functions compute. -/
import Derived.Test.YtnenfgpjedddoaaGreatAITa
import Derived.Test.YtnenfgpjedddoaaGreatAIP10
import Derived.Test.YtnenfgpjedddoaaGreatAIX10
set_option linter.unusedVariables false
set_option linter.unusedSimpArgs false
namespace Go.Proofs.YtnenfgpjedddoaaGreat.AI
open Go
variable {X : XX}

theorem call_RCount : ∀ (e : S60), okE e → ∀ (l : Int), inI l → Calld EV X 130 [.agg (encT .n60 e), .int .i64 l] [] (.int .i64 (cntS e l)) [] := by
  refine indE fun e ih oe l hl => ?_
  obtain ⟨o1, o2, o3⟩ := oe
  obtain ⟨l1, l2⟩ := hl
  have loop : 0 < l → ∀ i, i ≤ e.f4.length → Runs EV X (RCount_5 l (min l ((1 + nodesL (e.f4.take i) : Nat) : Int)) (i : Int) e) (.int .i64 (min l (nodes e))) [] := by
    intro hp
    refine down e.f4.length (fun i hi hi2 => ?_) (fun i hi ih2 _ => ?_)
    · have : e.f4.take i = e.f4 := List.take_of_length_le hi
      refine runs_by (RCount_5_eq _ _ _ _) ?_
      simp only [Tr.ok, nd_ok, and_true, this, ← nodes_eq]
      refine ⟨fun h => by simp at h; omega, fun _ => trivial⟩
    · refine runs_by (RCount_5_eq _ _ _ _) ?_
      simp only [Tr.ok, nd_ok, and_true, Int.toNat_natCast, getD_at hi]
      have hn := nodesL_take hi
      have h2 := nodesL_le e.f4 (i + 1)
      have h3 := nodes_eq e
      generalize hc : 1 + nodesL (e.f4.take i) = n at *
      refine ⟨fun _ => ⟨fun h => ⟨by simp; omega, (cntS e.f4[i] (l - n) : Int), ?_, ?_⟩, fun h => ?_⟩, fun h => by simp at h; omega⟩
      · have h : min l (n : Int) < l := by simpa using h
        have e1 : IntKind.i64.wrap (l - min l (n : Int)) = l - n := by rw [wr (by omega) (by omega)]; omega
        rw [e1]
        exact ih _ (List.getElem_mem hi) (o3 _ (List.getElem_mem hi)) _ ⟨by omega, by omega⟩
      · have h : min l (n : Int) < l := by simpa using h
        have c1 : cntS e.f4[i] (l - n) = min (l - n) (nodes e.f4[i]) := by unfold cntS; rw [if_neg (by omega)]
        rw [c1, wr (x := (i : Int) + 1) (by omega) (by omega), wr (x := min l (n : Int) + min (l - n) (nodes e.f4[i])) (by omega) (by omega)]
        have := ih2 (by omega)
        rw [hn] at this
        have e3 : min l (n : Int) + min (l - n) (nodes e.f4[i]) = min l ((1 + (nodesL (e.f4.take i) + nodes e.f4[i]) : Nat) : Int) := by omega
        rw [e3]
        exact this
      · have h : ¬ min l (n : Int) < l := by simpa using h
        congr 1; omega
  refine calld_run rfl (runs_by (RCount_0_eq e l) ?_)
  simp only [Tr.ok, nd_ok, and_true]
  unfold cntS
  refine ⟨fun h => ?_, fun h => ?_⟩
  · have h : l ≤ 0 := by simpa using h
    rw [if_pos h]
  · have h : ¬ l ≤ 0 := by simpa using h
    rw [if_neg h]
    have := loop (by omega) 0 (by omega)
    simp only [List.take_zero, nodesL] at this
    have e1 : min l (((1 + 0 : Nat)) : Int) = 1 := by omega
    rw [e1] at this
    exact this
def smallS (e : S60) (l : Int) : Bool := decide ((nodes e : Int) ≤ l)
theorem call_RSmall (e : S60) (oe : okE e) {l : Int} (h1 : 0 ≤ l) (h2 : l < 9000000000000000000) : Calld EV X 79 [.agg (encT .n60 e), .int .i64 l] [] (.bool (smallS e l)) [] := by
  refine calld_run rfl (runs_by (RSmall_0_eq e l) ?_)
  simp only [Tr.ok, nd_ok, and_true]
  rw [wr (x := l + 1) (by omega) (by omega)]
  refine ⟨(cntS e (l + 1) : Int), call_RCount _ oe _ ⟨by omega, by omega⟩, ?_⟩
  unfold cntS smallS
  rw [if_neg (by omega)]
  congr 1
  rw [decide_eq_decide]
  omega
/-- Small enough to be looked at: an article. -/
def fewA (a : S62) : Bool := decide (a.f6.length ≤ 40) && decide (a.f7.length ≤ 80) && smallS a.f8 420 && a.f6.all (smallS · 420)
def fewS (c : S31) : Bool := decide (c.f0.length ≤ 40) && decide (c.f1.length ≤ 40) && decide (c.f2.length ≤ 70) && c.f2.all fewA
theorem call_RFew (c : S31) (oc : okC c) : Calld EV X 44 [.agg (encT .n31 c), .int .i64 420] [] (.bool (fewS c)) [] := by
  have inner : ∀ (j : Nat) (a : S62), okA a → a.f6.length ≤ 40 → Runs EV X (RFew_4 420 ((j + 1 : Nat) : Int) c) (.bool ((c.f2.drop (j + 1)).all fewA)) [] → (j : Int) < 70 → ∀ i, i ≤ a.f6.length →
      Runs EV X (RFew_10 420 (j : Int) (i : Int) c a) (.bool ((a.f6.drop i).all (smallS · 420) && (c.f2.drop (j + 1)).all fewA)) [] := by
    intro j a oa ha h hj
    refine down a.f6.length (fun i hi hi2 => ?_) (fun i hi ih _ => ?_)
    · refine runs_by (RFew_10_eq _ _ _ _ _) ?_
      simp only [Tr.ok, nd_ok, and_true]
      refine ⟨fun h => by simp at h; omega, fun _ => ?_⟩
      rw [List.drop_eq_nil_of_le hi, wr (by omega) (by omega)]
      exact h
    · refine runs_by (RFew_10_eq _ _ _ _ _) ?_
      simp only [Tr.ok, nd_ok, and_true, Int.toNat_natCast, getD_at hi]
      rw [List.drop_eq_getElem_cons hi, List.all_cons]
      refine ⟨fun _ => ⟨by simp; omega, (smallS a.f6[i] 420 : Bool), call_RSmall _ (oa.whens _ (List.getElem_mem hi)) (by decide) (by decide), fun h => ?_, fun h => ?_⟩, fun h => by simp at h; omega⟩
      · have h : smallS a.f6[i] 420 = false := by simpa using h
        rw [h]; rfl
      · have h : smallS a.f6[i] 420 = true := by simpa using h
        rw [h, wr (by omega) (by omega), Bool.true_and]
        exact ih (by omega)
  have outer : c.f2.length ≤ 70 → ∀ j, j ≤ c.f2.length → Runs EV X (RFew_4 420 (j : Int) c) (.bool ((c.f2.drop j).all fewA)) [] := by
    intro hl
    refine down c.f2.length (fun j hj hj2 => ?_) (fun j hj ih _ => ?_)
    · refine runs_by (RFew_4_eq _ _ _) ?_
      simp only [Tr.ok, nd_ok, and_true]
      refine ⟨fun h => by simp at h; omega, fun _ => ?_⟩
      rw [List.drop_eq_nil_of_le hj]
      rfl
    · refine runs_by (RFew_4_eq _ _ _) ?_
      simp only [Tr.ok, nd_ok, and_true, Int.toNat_natCast, getD_at hj]
      rw [List.drop_eq_getElem_cons hj, List.all_cons]
      have oa := oc.art _ (List.getElem_mem hj)
      generalize c.f2[j] = a at *
      refine ⟨fun _ => ⟨by simp; omega, fun h1 => ⟨fun h2 => ⟨(smallS a.f8 420 : Bool), call_RSmall _ oa.amount (by decide) (by decide), fun h => ?_, fun h => ?_⟩, fun h2 => ?_⟩, fun h1 => ?_⟩, fun h => by simp at h; omega⟩
      · have h : smallS a.f8 420 = false := by simpa using h
        have : fewA a = false := by simp [fewA, h]
        rw [this]; rfl
      · have h : smallS a.f8 420 = true := by simpa using h
        have h1 : a.f6.length ≤ 40 := by simp at h1; omega
        have h2 : a.f7.length ≤ 80 := by simp at h2; omega
        have : fewA a = a.f6.all (smallS · 420) := by simp [fewA, h, h1, h2]
        rw [this]
        exact inner j a oa h1 (ih (by omega)) (by omega) 0 (by omega)
      · have h2 : ¬ a.f7.length ≤ 80 := by simp at h2; omega
        have : fewA a = false := by simp [fewA, h2]
        rw [this]; rfl
      · have h1 : ¬ a.f6.length ≤ 40 := by simp at h1; omega
        have : fewA a = false := by simp [fewA, h1]
        rw [this]; rfl
  refine calld_run rfl (runs_by (RFew_0_eq c 420) ?_)
  simp only [Tr.ok, nd_ok, and_true]
  unfold fewS
  refine ⟨fun h1 => ⟨fun h2 => ⟨fun h3 => ?_, fun h3 => ?_⟩, fun h2 => ?_⟩, fun h1 => ?_⟩
  · have h3 : ¬ c.f2.length ≤ 70 := by simp at h3; omega
    simp [h3]
  · have h1 : c.f0.length ≤ 40 := by simp at h1; omega
    have h2 : c.f1.length ≤ 40 := by simp at h2; omega
    have h3 : c.f2.length ≤ 70 := by simp at h3; omega
    simp only [h1, h2, h3, decide_true, Bool.true_and]
    exact outer h3 0 (by omega)
  · have h2 : ¬ c.f1.length ≤ 40 := by simp at h2; omega
    simp [h2]
  · have h1 : ¬ c.f0.length ≤ 40 := by simp at h1; omega
    simp [h1]
theorem call_small (c : S31) (oc : okC c) : Calld EV X 13 [.agg (encT .n31 c)] [] (.bool (fewS c)) [] := by
  refine calld_run rfl (runs_by (LSmall_0_eq c) ?_)
  simp only [Tr.ok, nd_ok, and_true]
  exact ⟨(fewS c : Bool), call_RFew c oc, rfl⟩

/-! ### Comparing -/
theorem S158.ext_iff' {a b : S158} : a = b ↔ a.f0 = b.f0 ∧ a.f1 = b.f1 ∧ a.f2 = b.f2 := by
  cases a; cases b; simp
theorem S24.ext_iff' {a b : S24} : a = b ↔ a.f0 = b.f0 ∧ a.f1 = b.f1 := by
  cases a; cases b; simp
theorem S60.ext_iff' {a b : S60} : a = b ↔ a.f0 = b.f0 ∧ a.f1 = b.f1 ∧ a.f2 = b.f2 ∧ a.f3 = b.f3 ∧ a.f4 = b.f4 := by
  cases a; cases b; simp
theorem S62.ext_iff' {a b : S62} : a = b ↔ a.f0 = b.f0 ∧ a.f1 = b.f1 ∧ a.f2 = b.f2 ∧ a.f3 = b.f3 ∧ a.f4 = b.f4 ∧ a.f5 = b.f5 ∧ a.f6 = b.f6 ∧ a.f7 = b.f7 ∧ a.f8 = b.f8 := by
  cases a; cases b; simp
theorem call_SameFunc (a b : S24) (hl : a.f1.length < 1000000000000000) : Calld EV X 77 [.agg (encT .n24 a), .agg (encT .n24 b)] [] (.bool (dec (a = b))) [] := by
  have loop : a.f1.length = b.f1.length → ∀ i, i ≤ a.f1.length → Runs EV X (SameFunc_4 (i : Int) a b) (.bool (dec (a.f1.drop i = b.f1.drop i))) [] := by
    intro hb
    refine down a.f1.length (fun i hi hi2 => ?_) (fun i hi ih _ => ?_)
    · refine runs_by (SameFunc_4_eq _ _ _) ?_
      simp only [Tr.ok, nd_ok, and_true]
      refine ⟨fun h => by simp at h; omega, fun _ => ?_⟩
      rw [List.drop_eq_nil_of_le hi, List.drop_eq_nil_of_le (by omega), dec_true rfl]
    · have hi' : i < b.f1.length := by omega
      refine runs_by (SameFunc_4_eq _ _ _) ?_
      simp only [Tr.ok, nd_ok, and_true, Int.toNat_natCast, getD_at hi, getD_at hi']
      rw [dec_congr (drop_eq hi hi'), dec_and]
      refine ⟨fun _ => ⟨by simp; omega, by simp; omega, fun h => ?_, fun h => ?_⟩, fun h => by simp at h; omega⟩
      · have : ¬ a.f1[i] = b.f1[i] := by
          intro hh; rw [hh] at h; simp at h
        rw [dec_false this, Bool.false_and]
      · have : a.f1[i] = b.f1[i] := by
          rw [S158.ext_iff']; simpa using h
        rw [dec_true this, Bool.true_and, wr (by omega) (by omega)]
        exact ih (by omega)
  refine calld_run rfl (runs_by (SameFunc_0_eq a b) ?_)
  simp only [Tr.ok, nd_ok, and_true]
  rw [dec_congr S24.ext_iff', dec_and]
  refine ⟨fun h1 => ⟨fun h2 => ?_, fun h2 => ?_⟩, fun h1 => ?_⟩
  · have h2 : ¬ a.f1 = b.f1 := fun e => by rw [e] at h2; simp at h2
    rw [dec_false h2, Bool.and_false]
  · have h1 : a.f0 = b.f0 := by simpa using h1
    rw [dec_true h1, Bool.true_and]
    exact loop (by simp at h2; omega) 0 (by omega)
  · have h1 : ¬ a.f0 = b.f0 := by simpa using h1
    rw [dec_false h1, Bool.false_and]
theorem call_RSame : ∀ (a : S60), okE a → ∀ b, Calld EV X 41 [.agg (encT .n60 a), .agg (encT .n60 b)] [] (.bool (dec (a = b))) [] := by
  refine indE fun a ih oa b => ?_
  obtain ⟨o1, o2, o3⟩ := oa
  have loop : a.f4.length = b.f4.length → ∀ i, i ≤ a.f4.length → Runs EV X (RSame_4 (i : Int) a b) (.bool (dec (a.f4.drop i = b.f4.drop i))) [] := by
    intro hb
    refine down a.f4.length (fun i hi hi2 => ?_) (fun i hi ih2 _ => ?_)
    · refine runs_by (RSame_4_eq _ _ _) ?_
      simp only [Tr.ok, nd_ok, and_true]
      refine ⟨fun h => by simp at h; omega, fun _ => ?_⟩
      rw [List.drop_eq_nil_of_le hi, List.drop_eq_nil_of_le (by omega), dec_true rfl]
    · have hi' : i < b.f4.length := by omega
      refine runs_by (RSame_4_eq _ _ _) ?_
      simp only [Tr.ok, nd_ok, and_true, Int.toNat_natCast, getD_at hi, getD_at hi']
      rw [dec_congr (drop_eq hi hi'), dec_and]
      refine ⟨fun _ => ⟨by simp; omega, by simp; omega, (dec (a.f4[i] = b.f4[i]) : Bool), ih _ (List.getElem_mem hi) (o3 _ (List.getElem_mem hi)) _, fun h => ?_, fun h => ?_⟩, fun h => by simp at h; omega⟩
      · have h : dec (a.f4[i] = b.f4[i]) = false := by simpa using h
        rw [h]; rfl
      · have h : dec (a.f4[i] = b.f4[i]) = true := by simpa using h
        rw [h, Bool.true_and, wr (by omega) (by omega)]
        exact ih2 (by omega)
  refine calld_run rfl (runs_by (RSame_0_eq a b) ?_)
  simp only [Tr.ok, nd_ok, and_true]
  rw [dec_congr S60.ext_iff']
  refine ⟨fun h1 => ⟨fun h2 => ⟨fun h3 => ⟨(dec (a.f3 = b.f3) : Bool), call_SameFunc _ _ o2, fun h4 => ⟨fun h5 => ?_, fun h5 => ?_⟩, fun h4 => ?_⟩, fun h3 => ?_⟩, fun h2 => ?_⟩, fun h1 => ?_⟩
  · rw [dec_false]
    intro ⟨_, _, _, _, e⟩; rw [e] at h5; simp at h5
  · have h4 : a.f3 = b.f3 := dec_iff.1 (by simpa using h4)
    have := loop (by simp at h5; omega) 0 (by omega)
    rw [dec_congr (q := a.f4 = b.f4)]; · exact this
    simp only [Bool.not_eq_true', Bool.not_eq_false', beq_iff_eq, Bool.not_not] at h1 h2 h3
    simp [h1, h2, h3, h4]
  · have h4 : ¬ a.f3 = b.f3 := dec_not.1 (by simpa using h4)
    rw [dec_false (by simp [h4])]
  · have h3 : ¬ a.f2 = b.f2 := by simpa using h3
    rw [dec_false (by simp [h3])]
  · have h2 : ¬ a.f1 = b.f1 := by simpa using h2
    rw [dec_false (by simp [h2])]
  · have h1 : ¬ a.f0 = b.f0 := by simpa using h1
    rw [dec_false (by simp [h1])]
theorem call_SameInts (a b : List Int) (hl : a.length < 1000000000000000) : Calld EV X 26 [.sl .n3 a .no, .sl .n3 b .no] [] (.bool (dec (a = b))) [] := by
  have loop : a.length = b.length → ∀ i, i ≤ a.length → Runs EV X (SameInts_4 a b (i : Int)) (.bool (dec (a.drop i = b.drop i))) [] := by
    intro hb
    refine down a.length (fun i hi hi2 => ?_) (fun i hi ih _ => ?_)
    · refine runs_by (SameInts_4_eq _ _ _) ?_
      simp only [Tr.ok, nd_ok, and_true]
      refine ⟨fun h => by simp at h; omega, fun _ => ?_⟩
      rw [List.drop_eq_nil_of_le hi, List.drop_eq_nil_of_le (by omega), dec_true rfl]
    · have hi' : i < b.length := by omega
      refine runs_by (SameInts_4_eq _ _ _) ?_
      simp only [Tr.ok, nd_ok, and_true, Int.toNat_natCast, getD_at hi, getD_at hi']
      rw [dec_congr (drop_eq hi hi'), dec_and]
      refine ⟨fun _ => ⟨by simp; omega, by simp; omega, fun h => ?_, fun h => ?_⟩, fun h => by simp at h; omega⟩
      · have : ¬ a[i] = b[i] := by simpa using h
        rw [dec_false this, Bool.false_and]
      · have : a[i] = b[i] := by simpa using h
        rw [dec_true this, Bool.true_and, wr (by omega) (by omega)]
        exact ih (by omega)
  refine calld_run rfl (runs_by (SameInts_0_eq a b) ?_)
  simp only [Tr.ok, nd_ok, and_true]
  refine ⟨fun h => ?_, fun h => ?_⟩
  · rw [dec_false]
    intro e; rw [e] at h; simp at h
  · exact loop (by simp at h; omega) 0 (by omega)
theorem call_SameExprs (a b : List S60) (hl : a.length < 1000000000000000) (ha : ∀ e ∈ a, okE e) : Calld EV X 75 [.sl .n60 a .no, .sl .n60 b .no] [] (.bool (dec (a = b))) [] := by
  have loop : a.length = b.length → ∀ i, i ≤ a.length → Runs EV X (SameExprs_4 a b (i : Int)) (.bool (dec (a.drop i = b.drop i))) [] := by
    intro hb
    refine down a.length (fun i hi hi2 => ?_) (fun i hi ih _ => ?_)
    · refine runs_by (SameExprs_4_eq _ _ _) ?_
      simp only [Tr.ok, nd_ok, and_true]
      refine ⟨fun h => by simp at h; omega, fun _ => ?_⟩
      rw [List.drop_eq_nil_of_le hi, List.drop_eq_nil_of_le (by omega), dec_true rfl]
    · have hi' : i < b.length := by omega
      refine runs_by (SameExprs_4_eq _ _ _) ?_
      simp only [Tr.ok, nd_ok, and_true, Int.toNat_natCast, getD_at hi, getD_at hi']
      rw [dec_congr (drop_eq hi hi'), dec_and]
      refine ⟨fun _ => ⟨by simp; omega, by simp; omega, (dec (a[i] = b[i]) : Bool), call_RSame _ (ha _ (List.getElem_mem hi)) _, fun h => ?_, fun h => ?_⟩, fun h => by simp at h; omega⟩
      · have h : dec (a[i] = b[i]) = false := by simpa using h
        rw [h]; rfl
      · have h : dec (a[i] = b[i]) = true := by simpa using h
        rw [h, Bool.true_and, wr (by omega) (by omega)]
        exact ih (by omega)
  refine calld_run rfl (runs_by (SameExprs_0_eq a b) ?_)
  simp only [Tr.ok, nd_ok, and_true]
  refine ⟨fun h => ?_, fun h => ?_⟩
  · rw [dec_false]
    intro e; rw [e] at h; simp at h
  · exact loop (by simp at h; omega) 0 (by omega)
theorem call_SameArticle (a b : S62) (ha : okA a) : Calld EV X 34 [.agg (encT .n62 a), .agg (encT .n62 b)] [] (.bool (dec (a = b))) [] := by
  refine calld_run rfl (runs_by (SameArticle_0_eq a b) ?_)
  simp only [Tr.ok, nd_ok, and_true]
  rw [dec_congr S62.ext_iff']
  have no : ∀ {p : Prop}, ¬ p → V.bool (T := T) false = .bool (dec p) := fun h => by rw [dec_false h]
  refine ⟨fun h1 => ⟨fun h2 => ⟨fun h3 => ⟨fun h4 => ⟨fun h5 => ⟨fun h6 => ⟨(dec (a.f6 = b.f6) : Bool), call_SameExprs _ _ ha.when ha.whens, fun h7 => ⟨(dec (a.f7 = b.f7) : Bool), call_SameInts _ _ ha.except, fun h8 => ⟨(dec (a.f8 = b.f8) : Bool), call_RSame _ ha.amount _, ?_⟩, fun h => ?_⟩, fun h => ?_⟩,
    fun h => ?_⟩, fun h => ?_⟩, fun h => ?_⟩, fun h => ?_⟩, fun h => ?_⟩, fun h => ?_⟩
  · simp only [beq_iff_eq] at h1 h2 h3 h4 h5 h6
    rw [dec_iff] at h7 h8
    congr 1
    exact dec_congr (by simp [h1, h2, h3, h4, h5, h6, h7, h8])
  all_goals
    refine no ?_
    first | (rw [dec_not] at h; simp [h]; done) | (simp at h; simp [h])
end Go.Proofs.YtnenfgpjedddoaaGreat.AI
