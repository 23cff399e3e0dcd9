/- Layer 10: the version in force, and the law on it. -/
import Derived.Test.YtnenfgpjedddoaaGreatAIL10a
import Derived.Test.YtnenfgpjedddoaaGreatAITb
set_option linter.unusedVariables false
set_option linter.unusedSimpArgs false
namespace Go.Proofs.YtnenfgpjedddoaaGreat.AI
open Go
variable {X : XX}

def fitsA (a : S62) (n d k : Int) : Bool := a.f0 == n && (decide (a.f3 ≤ d) && (decide (d < a.f4) && decide (a.f5 ≤ k)))
/-- The best one of the first ones. -/
def verS (l : List S62) (n d k : Int) : Nat → Nat × Bool
  | 0 => (0, false)
  | j + 1 => bif fitsA (l.getD j d62) n d k && (!(verS l n d k j).2 || decide ((l.getD (verS l n d k j).1 d62).f5 ≤ (l.getD j d62).f5)) then (j, true) else verS l n d k j
theorem verS_succ (l : List S62) (n d k : Int) (j : Nat) : verS l n d k (j + 1) = bif fitsA (l.getD j d62) n d k && (!(verS l n d k j).2 || decide ((l.getD (verS l n d k j).1 d62).f5 ≤ (l.getD j d62).f5)) then (j, true) else verS l n d k j := rfl
theorem verS_lt (l : List S62) (n d k : Int) : ∀ j, (verS l n d k j).2 = true → (verS l n d k j).1 < j
  | 0, h => by cases h
  | j + 1, h => by
    rw [verS_succ] at *
    cases hc : (fitsA (l.getD j d62) n d k && (!(verS l n d k j).2 || decide ((l.getD (verS l n d k j).1 d62).f5 ≤ (l.getD j d62).f5))) with
    | true => simp
    | false =>
      rw [hc] at h
      simp only [cond_false] at *
      have := verS_lt l n d k j h
      omega
theorem call_CVersion (c : S31) (hl : c.f2.length < 1000000000000000) (n d k : Int) :
    Calld EV X 16 [.agg (encT .n31 c), .int .i64 n, .int .i64 d, .int .i64 k] [] (.tup [.int .i64 (verS c.f2 n d k c.f2.length).1, .bool (verS c.f2 n d k c.f2.length).2]) [] := by
  have loop : ∀ j, j ≤ c.f2.length → Runs EV X (CVersion_3 n d k (verS c.f2 n d k j).1 (verS c.f2 n d k j).2 c.f2 (c.f2.length : Int) (j : Int) c) (.tup [.int .i64 (verS c.f2 n d k c.f2.length).1, .bool (verS c.f2 n d k c.f2.length).2]) [] := by
    refine down c.f2.length (fun j hj hj2 => ?_) (fun j hj ih _ => ?_)
    · have : j = c.f2.length := by omega
      subst this
      refine runs_by (CVersion_3_eq _ _ _ _ _ _ _ _ _) ?_
      simp only [Tr.ok, nd_ok, and_true, true_and, Int.toNat_natCast, Bool.and_eq_true, Bool.or_eq_true, Bool.not_eq_true', Bool.not_eq_false', Bool.not_not, decide_eq_true_eq, decide_eq_false_iff_not, beq_iff_eq, beq_eq_false_iff_ne, ne_eq, Bool.false_eq_true, Bool.true_eq_false, false_implies, forall_const]
      exact ⟨fun h => by omega, fun _ => trivial⟩
    · refine runs_by (CVersion_3_eq _ _ _ _ _ _ _ _ _) ?_
      have hp := verS_lt c.f2 n d k j
      replace ih := ih (by omega)
      rw [verS_succ] at ih
      simp only [Tr.ok, nd_ok, and_true, true_and, Int.toNat_natCast, Bool.and_eq_true, Bool.or_eq_true, Bool.not_eq_true', Bool.not_eq_false', Bool.not_not, decide_eq_true_eq, decide_eq_false_iff_not, beq_iff_eq, beq_eq_false_iff_ne, ne_eq, Bool.false_eq_true, Bool.true_eq_false, false_implies, forall_const]
      rw [wr (x := (j : Int) + 1) (by omega) (by omega)]
      generalize verS c.f2 n d k j = p at *
      have yes : (fitsA (c.f2.getD j d62) n d k && (!p.2 || decide ((c.f2.getD p.1 d62).f5 ≤ (c.f2.getD j d62).f5))) = true → Runs EV X (CVersion_3 n d k (j : Int) true c.f2 (c.f2.length : Int) ((j : Int) + 1) c) (.tup [.int .i64 (verS c.f2 n d k c.f2.length).1, .bool (verS c.f2 n d k c.f2.length).2]) [] := fun hc => by
        rw [hc] at ih; exact ih
      have no : (fitsA (c.f2.getD j d62) n d k && (!p.2 || decide ((c.f2.getD p.1 d62).f5 ≤ (c.f2.getD j d62).f5))) = false → Runs EV X (CVersion_3 n d k (p.1 : Int) p.2 c.f2 (c.f2.length : Int) ((j : Int) + 1) c) (.tup [.int .i64 (verS c.f2 n d k c.f2.length).1, .bool (verS c.f2 n d k c.f2.length).2]) [] := fun hc => by
        rw [hc] at ih; exact ih
      refine ⟨fun _ => ⟨by omega, fun h1 => ⟨fun h2 => ⟨fun h3 => ⟨fun h4 => ⟨fun h5 => ⟨?_, fun h6 => yes ?_, fun h6 => no ?_⟩, fun h5 => yes ?_⟩, fun h4 => no ?_⟩, fun h3 => no ?_⟩, fun h2 => no ?_⟩, fun h1 => no ?_⟩, fun h => by omega⟩
      · have := hp h5
        omega
      all_goals
        clear ih yes no hp
        generalize c.f2.getD j d62 = a at *
        generalize c.f2.getD p.1 d62 = b at *
        simp [fitsA, *]
      all_goals omega
  refine calld_run rfl (runs_by (CVersion_0_eq c n d k) ?_)
  simp only [Tr.ok, nd_ok, and_true, true_and, Int.toNat_natCast, Bool.and_eq_true, Bool.or_eq_true, Bool.not_eq_true', Bool.not_eq_false', Bool.not_not, decide_eq_true_eq, decide_eq_false_iff_not, beq_iff_eq, beq_eq_false_iff_ne, ne_eq, Bool.false_eq_true, Bool.true_eq_false, false_implies, forall_const]
  exact loop 0 (by omega)
/-- What the best one is. -/
theorem verS_spec (l : List S62) (n d k : Int) : ∀ j, ((verS l n d k j).2 = true → fitsA (l.getD (verS l n d k j).1 d62) n d k = true) ∧
    ∀ i, i < j → fitsA (l.getD i d62) n d k = true → (verS l n d k j).2 = true ∧ (l.getD i d62).f5 ≤ (l.getD (verS l n d k j).1 d62).f5 ∧ ((l.getD i d62).f5 = (l.getD (verS l n d k j).1 d62).f5 → i ≤ (verS l n d k j).1)
  | 0 => ⟨fun h => (by cases h), fun i hi => (by omega)⟩
  | j + 1 => by
    obtain ⟨ih1, ih2⟩ := verS_spec l n d k j
    have hlt := verS_lt l n d k j
    rw [verS_succ]
    cases hc : (fitsA (l.getD j d62) n d k && (!(verS l n d k j).2 || decide ((l.getD (verS l n d k j).1 d62).f5 ≤ (l.getD j d62).f5))) with
    | true =>
      simp only [cond_true, Bool.and_eq_true, Bool.or_eq_true, Bool.not_eq_true', decide_eq_true_eq] at *
      refine ⟨fun _ => hc.1, fun i hi hf => ⟨trivial, ?_, fun _ => by omega⟩⟩
      by_cases hij : i = j
      · subst hij; exact Int.le_refl _
      · obtain ⟨a1, a2, a3⟩ := ih2 i (by omega) hf
        rcases hc.2 with h | h
        · rw [a1] at h; cases h
        · exact Int.le_trans a2 h
    | false =>
      simp only [cond_false]
      refine ⟨ih1, fun i hi hf => ?_⟩
      by_cases hij : i = j
      · subst hij
        rw [hf] at hc
        simp only [Bool.true_and, Bool.or_eq_false_iff, Bool.not_eq_false', decide_eq_false_iff_not] at hc
        exact ⟨hc.1, by omega, fun e => by omega⟩
      · exact ih2 i (by omega) hf
theorem verS_app (l m : List S62) (n d k : Int) : ∀ j, j ≤ l.length → verS (l ++ m) n d k j = verS l n d k j
  | 0, _ => rfl
  | j + 1, h => by
    rw [verS_succ, verS_succ, verS_app l m n d k j (by omega)]
    have hlt := verS_lt l n d k j
    have e1 : (l ++ m).getD j d62 = l.getD j d62 := by simp [List.getD, List.getElem?_append_left (show j < l.length by omega)]
    rw [e1]
    cases hb : (verS l n d k j).2 with
    | false => simp
    | true =>
      have := hlt hb
      have e2 : (l ++ m).getD (verS l n d k j).1 d62 = l.getD (verS l n d k j).1 d62 := by simp [List.getD, List.getElem?_append_left (show (verS l n d k j).1 < l.length by omega)]
      rw [e2]
/-- Versions that become known later do not matter. -/
theorem verS_early (l : List S62) (n d k : Int) : ∀ j, j ≤ l.length → ((verS ((l.take j).filter fun a => decide (a.f5 ≤ k)) n d k ((l.take j).filter fun a => decide (a.f5 ≤ k)).length).2 = (verS l n d k j).2) ∧
    ((verS l n d k j).2 = true → ((l.take j).filter fun a => decide (a.f5 ≤ k)).getD (verS ((l.take j).filter fun a => decide (a.f5 ≤ k)) n d k ((l.take j).filter fun a => decide (a.f5 ≤ k)).length).1 d62 = l.getD (verS l n d k j).1 d62)
  | 0, _ => by simp [verS]
  | j + 1, h => by
    obtain ⟨ih1, ih2⟩ := verS_early l n d k j (by omega)
    have hj : j < l.length := by omega
    rw [List.take_succ_eq_append_getElem hj, List.filter_append]
    generalize hF : (l.take j).filter (fun a => decide (a.f5 ≤ k)) = F at *
    have hg : l.getD j d62 = l[j] := getD_at hj
    have hltF := verS_lt F n d k F.length
    rw [verS_succ, hg]
    generalize l[j] = a at *
    by_cases hk : a.f5 ≤ k
    · have e : [a].filter (fun a => decide (a.f5 ≤ k)) = [a] := by simp [hk]
      rw [e, List.length_append, List.length_singleton, verS_succ, verS_app F [a] n d k F.length (Nat.le_refl _)]
      have e1 : (F ++ [a]).getD F.length d62 = a := by simp [List.getD]
      rw [e1]
      generalize verS F n d k F.length = q at *
      generalize verS l n d k j = p at *
      cases hp : p.2 with
      | false =>
        rw [hp] at ih1
        rw [ih1]
        cases hf : fitsA a n d k with
        | true =>
          simp only [Bool.not_false, Bool.true_or, Bool.and_true, cond_true, true_and, forall_const]
          rw [e1, hg]
        | false =>
          simp only [Bool.false_and, cond_false, ih1, hp]
          exact ⟨trivial, fun h => by cases h⟩
      | true =>
        rw [hp] at ih1
        have hq := hltF ih1
        have e2 : (F ++ [a]).getD q.1 d62 = F.getD q.1 d62 := by simp [List.getD, List.getElem?_append_left hq]
        rw [ih1, e2, ih2 hp]
        cases hc : (fitsA a n d k && (!true || decide ((l.getD p.1 d62).f5 ≤ a.f5))) with
        | true =>
          simp only [cond_true, true_and, forall_const]
          rw [e1, hg]
        | false =>
          simp only [cond_false, ih1, hp, true_and, forall_const]
          rw [e2]
          exact ih2 hp
    · have e : [a].filter (fun a => decide (a.f5 ≤ k)) = [] := by simp [hk]
      have hf : fitsA a n d k = false := by simp [fitsA, hk]
      rw [e, List.append_nil, hf, Bool.false_and, cond_false]
      exact ⟨ih1, ih2⟩
theorem call_LFits (a : S62) (n d k : Int) : Calld EV X 33 [.agg (encT .n62 a), .ptr 0 0, .ptr 1 0, .ptr 2 0] [.box 3 [.int .i64 n], .box 3 [.int .i64 d], .box 3 [.int .i64 k]] (.bool (fitsA a n d k)) [.box 3 [.int .i64 n], .box 3 [.int .i64 d], .box 3 [.int .i64 k]] := by
  refine calld_run rfl (runs_by (LFits_0_eq a n d k) ?_)
  simp only [Tr.ok, nd_ok, and_true, true_and, Int.toNat_natCast, Bool.and_eq_true, Bool.or_eq_true, Bool.not_eq_true', Bool.not_eq_false', Bool.not_not, decide_eq_true_eq, decide_eq_false_iff_not, beq_iff_eq, beq_eq_false_iff_ne, ne_eq, Bool.false_eq_true, Bool.true_eq_false, false_implies, forall_const]
  unfold fitsA
  refine ⟨fun h1 => ⟨fun h2 => ⟨fun h3 => ?_, fun h3 => ?_⟩, fun h2 => ?_⟩, fun h1 => ?_⟩ <;> simp [*]
theorem versions_runs (hh : Calld EV X 11 [] [] (.bool true) []) (c : S31) (oc : okC c) (n d k : Int) :
    Calld EV X 5 [.agg (encT .n31 c), .int .i64 n, .int .i64 d, .int .i64 k] [] (.bool true) [] := by
  have hspec := verS_spec c.f2 n d k c.f2.length
  have hlt := verS_lt c.f2 n d k c.f2.length
  have hearly := verS_early c.f2 n d k c.f2.length (Nat.le_refl _)
  rw [List.take_length] at hearly
  have hcv := call_CVersion (X := X) c oc.arts n d k
  generalize verS c.f2 n d k c.f2.length = p at *
  have loop : c.f2.length ≤ 70 → ∀ i, i ≤ c.f2.length → Runs EV X (LVersions_10 true p.1 p.2 c.f2 (c.f2.length : Int) (i : Int) c n d k [] [] ((c.f2.take i).filter fun a => decide (a.f5 ≤ k))) (.bool true) [] := by
    intro h70
    refine down c.f2.length (fun i hi hi2 => ?_) (fun i hi ih _ => ?_)
    · have : i = c.f2.length := by omega
      subst this
      refine runs_by (LVersions_10_eq _ _ _ _ _ _ _ _ _ _ _ _ _) ?_
      rw [List.take_length]
      have hlen : (c.f2.filter fun a => decide (a.f5 ≤ k)).length ≤ c.f2.length := List.length_filter_le _ _
      have hsub : ∀ a ∈ c.f2.filter fun a => decide (a.f5 ≤ k), okA a := fun a ha => oc.art a (List.mem_filter.1 ha).1
      generalize c.f2.filter (fun a => decide (a.f5 ≤ k)) = F at *
      have hcF := call_CVersion (X := X) ⟨[], [], F⟩ (by show F.length < _; omega) n d k
      have hltF := verS_lt F n d k F.length
      change Calld EV X 16 _ _ (.tup [.int .i64 (verS F n d k F.length).1, .bool (verS F n d k F.length).2]) _ at hcF
      generalize verS F n d k F.length = q at *
      simp only [Tr.ok, nd_ok, and_true, true_and, Int.toNat_natCast, Bool.and_eq_true, Bool.or_eq_true, Bool.not_eq_true', Bool.not_eq_false', Bool.not_not, decide_eq_true_eq, decide_eq_false_iff_not, beq_iff_eq, beq_eq_false_iff_ne, ne_eq, Bool.false_eq_true, Bool.true_eq_false, false_implies, forall_const]
      refine ⟨fun h => by omega, fun _ => ⟨((q.1 : Int), q.2), hcF, fun h1 => ⟨fun h2 => ⟨fun h3 => ⟨fun h4 => ⟨by omega, ?_, (true : Bool), ?_, rfl⟩, fun h4 => ?_⟩, fun h3 => ?_⟩, fun h2 => trivial⟩, fun h1 => ?_⟩⟩
      · have := hlt h2
        omega
      · have hq := hltF (by rw [hearly.1]; exact h2)
        have := call_SameArticle (X := X) (F.getD q.1 d62) (c.f2.getD p.1 d62) (hsub _ (by rw [getD_at hq]; exact List.getElem_mem hq))
        rw [dec_true (hearly.2 h2)] at this
        exact this
      · have hq := hltF (by rw [hearly.1]; exact h2)
        exact absurd h4 (by show ¬ ¬ ((q.1 : Int) < _); omega)
      · exact absurd h3 (by show ¬ ¬ (0 ≤ (q.1 : Int)); omega)
      · exact absurd hearly.1 h1
    · refine runs_by (LVersions_10_eq _ _ _ _ _ _ _ _ _ _ _ _ _) ?_
      have hF : ((c.f2.take i).filter fun a => decide (a.f5 ≤ k)).length ≤ i := Nat.le_trans (List.length_filter_le _ _) (by simp; omega)
      replace ih := ih (by omega)
      rw [List.take_succ_eq_append_getElem hi, List.filter_append] at ih
      generalize (c.f2.take i).filter (fun a => decide (a.f5 ≤ k)) = F at *
      have hsp := hspec.2 i hi
      have hok := hspec.1
      have hg : c.f2.getD i d62 = c.f2[i] := getD_at hi
      rw [hg] at hsp
      simp only [Tr.ok, nd_ok, and_true, true_and, Int.toNat_natCast, Bool.and_eq_true, Bool.or_eq_true, Bool.not_eq_true', Bool.not_eq_false', Bool.not_not, decide_eq_true_eq, decide_eq_false_iff_not, beq_iff_eq, beq_eq_false_iff_ne, ne_eq, Bool.false_eq_true, Bool.true_eq_false, false_implies, forall_const, et62_eq, getD_at hi]
      rw [wr (x := (i : Int) + 1) (by omega) (by omega)]
      generalize c.f2[i] = a at *
      have fin : (a.f5 ≤ k → (F.length + [a].length) * 184 ≤ 140737488355328 ∧ Runs EV X (LVersions_10 true p.1 p.2 c.f2 (c.f2.length : Int) (i + 1 : Int) c n d k [] [] (F ++ [a])) (.bool true) []) ∧
          (¬ a.f5 ≤ k → Runs EV X (LVersions_10 true p.1 p.2 c.f2 (c.f2.length : Int) (i + 1 : Int) c n d k [] [] F) (.bool true) []) := by
        refine ⟨fun h => ⟨by simp; omega, ?_⟩, fun h => ?_⟩
        · have e : [a].filter (fun a => decide (a.f5 ≤ k)) = [a] := by simp [h]
          rw [e] at ih; exact ih
        · have e : [a].filter (fun a => decide (a.f5 ≤ k)) = [] := by simp; omega
          rw [e, List.append_nil] at ih; exact ih
      refine ⟨fun _ => ⟨by omega, ((fitsA a n d k : Bool), n, d, k), call_LFits a n d k, fun h1 => ⟨fun h2 => ⟨?_, fun h3 => ⟨?_, fun h4 => ⟨fun h5 => ?_, fun h5 => fin⟩, fun h4 => fin⟩, fun h3 => ?_⟩, fun h2 => ?_⟩, fun h1 => fin⟩, fun h => by omega⟩
      · have := hlt h2
        omega
      · have := hlt h2
        omega
      · obtain ⟨a1, a2, a3⟩ := hsp h1
        have h4 := a3 h4
        omega
      · obtain ⟨a1, a2, a3⟩ := hsp h1
        omega
      · obtain ⟨a1, a2, a3⟩ := hsp h1
        rw [a1] at h2; cases h2
  refine calld_run rfl (runs_by (LVersions_0_eq c n d k) ?_)
  simp only [Tr.ok, nd_ok, and_true, true_and, Int.toNat_natCast, Bool.and_eq_true, Bool.or_eq_true, Bool.not_eq_true', Bool.not_eq_false', Bool.not_not, decide_eq_true_eq, decide_eq_false_iff_not, beq_iff_eq, beq_eq_false_iff_ne, ne_eq, Bool.false_eq_true, Bool.true_eq_false, false_implies, forall_const]
  refine ⟨(true : Bool), hh, (fewS c : Bool), call_small c oc, fun h => rfl, fun h => ⟨((p.1 : Int), p.2), hcv, fun h1 => ?_, fun h1 => ?_⟩⟩
  · have h70 : c.f2.length ≤ 70 := by simp [fewS] at h; omega
    have hp := hlt h1
    refine ⟨fun h2 => ⟨fun h3 => ⟨by simp; omega, ((fitsA (c.f2.getD p.1 d62) n d k : Bool), n, d, k), call_LFits _ _ _ _, fun h4 => ?_, fun h4 => loop h70 0 (by omega)⟩, fun h3 => ?_⟩, fun h2 => ?_⟩
    · have := hspec.1 h1
      exact absurd this (by rw [show fitsA _ n d k = false from h4]; decide)
    · exact absurd h3 (by show ¬ _ ≤ (p.1 : Int); omega)
    · exact absurd h2 (by show ¬ (p.1 : Int) < 0; omega)
  · have h70 : c.f2.length ≤ 70 := by simp [fewS] at h; omega
    exact loop h70 0 (by omega)
end Go.Proofs.YtnenfgpjedddoaaGreat.AI
