/- Instalments are positive, in ascending months and at most a quarter of the month's net amount; with the rest they make up the sum; a schedule can be continued. No conditions. -/
import Derived.Test.YtpgghakjbghagaaHpx10
import Derived.Test.YtpgghakjbghagaaPSchedule
set_option linter.unusedVariables false
namespace Go.Proofs.Ytpgghakjbghagaa.Pure
open Go.RowKit Go.Proofs.Ytpgghakjbghagaa.Hp Go.Proofs.Ytpgghakjbghagaa.PEv Go.Proofs.Ytpgghakjbghagaa.PReclaim Go.Proofs.Ytpgghakjbghagaa.PSchedule Go.Proofs.YtpgghakjbghagaaW.PrintWords Go.Proofs.YtpgghakjbghagaaW.PrintLast Go.Proofs.YtpgghakjbghagaaW.PrintMore

namespace Schedules
/-- The instalments of a list that begins behind a month: ascending, positive, at most a quarter; and their sum. -/
def Instals (N : List Int) (m : Int) : Int → List S41 → Prop
  | _, [] => True
  | last, x :: l => x.f0 > last ∧ (∃ i : Nat, ∃ h : i < N.length, x.f0 = m + i ∧ x.f1 ≤ N[i] / 4 ∧ 0 ≤ N[i]) ∧ x.f1 > 0 ∧ Instals N m x.f0 l
def cents : List S41 → Int
  | [] => 0
  | x :: l => x.f1 + cents l
theorem good_mono {N : List Int} {m : Int} (l : List S41) : ∀ {a b : Int}, a ≤ b → Instals N m b l → Instals N m a l := by
  cases l with
  | nil => intro a b _ _; trivial
  | cons x l => intro a b h hg; exact ⟨by have := hg.1; omega, hg.2⟩
theorem good_sched (N : List Int) (m : Int) : ∀ (d i : Nat) (o last : Int), i + d = N.length → last < m + i → Instals N m last (sched (N.drop i) o (m + i)).1 := by
  intro d
  induction d with
  | zero => intro i o last hi hl; rw [List.drop_eq_nil_of_le (by omega), sched_nil]; trivial
  | succ d ih =>
    intro i o last hi hl
    have hlt : i < N.length := by omega
    rw [List.drop_eq_getElem_cons hlt, sched]
    have e : m + (i : Int) + 1 = m + ((i + 1 : Nat) : Int) := by omega
    split
    · rename_i hk
      rw [e]
      exact ⟨by show m + (i : Int) > last; omega, ⟨i, hlt, rfl, by show min o (max N[i] 0 / 4) ≤ _; omega, by omega⟩, hk, ih (i + 1) _ _ (by omega) (by show m + (i : Int) < _; omega)⟩
    · rw [e]
      exact ih (i + 1) _ _ (by omega) (by omega)
theorem cents_sched (ns : List Int) : ∀ o m : Int, cents (sched ns o m).1 + (sched ns o m).2 = o := by
  induction ns with
  | nil => intro o m; simp [sched, cents]
  | cons n ns ih =>
    intro o m
    rw [sched]
    split
    · have := ih (o - min o (max n 0 / 4)) (m + 1)
      simp only [cents]
      omega
    · exact ih o (m + 1)
def quarters : List Int → Int
  | [] => 0
  | n :: ns => max n 0 / 4 + quarters ns
theorem quarters_nonneg (ns : List Int) : 0 ≤ quarters ns := by
  induction ns with
  | nil => simp [quarters]
  | cons n ns ih => simp only [quarters]; omega
theorem rest_sched (ns : List Int) : ∀ o m : Int, 0 ≤ o → (sched ns o m).2 = max 0 (o - quarters ns) := by
  induction ns with
  | nil => intro o m h; simp [sched, quarters]; omega
  | cons n ns ih =>
    intro o m h
    have hq := quarters_nonneg ns
    rw [sched]
    simp only [quarters]
    split
    · rw [ih _ _ (by omega)]; omega
    · rw [ih _ _ h]; omega
theorem quarters_snoc (xs : List Int) (n : Int) : quarters (xs ++ [n]) = quarters xs + max n 0 / 4 := by
  induction xs with
  | nil => simp [quarters]
  | cons x xs ih => simp only [List.cons_append, quarters, ih]; omega
theorem quarters_bound (xs : List Int) (h : ∀ x ∈ xs, -1000000 ≤ x ∧ x ≤ 1000000) : quarters xs ≤ 250000 * (xs.length : Int) := by
  induction xs with
  | nil => simp [quarters]
  | cons x xs ih =>
    have := ih (fun y hy => h y (by simp [hy]))
    have hx := h x (by simp)
    simp only [quarters, List.length_cons]
    omega
theorem cents_append (a b : List S41) : cents (a ++ b) = cents a + cents b := by
  induction a with
  | nil => simp [cents]
  | cons x a ih => simp only [List.cons_append, cents, ih]; omega
theorem good_drop {N : List Int} {m : Int} (l : List S41) : ∀ {last : Int}, Instals N m last l → ∀ i (h : i < l.length), 0 ≤ cents (l.take i) ∧ ∃ j : Nat, ∃ hj : j < N.length, l[i].f0 = m + j ∧ l[i].f1 ≤ N[j] / 4 ∧ 0 ≤ N[j] ∧ l[i].f1 > 0 := by
  induction l with
  | nil => intro last hg i h; simp at h
  | cons x l ih =>
    intro last hg i h
    obtain ⟨h1, ⟨j, hj, h2⟩, h3, h4⟩ := hg
    cases i with
    | zero => exact ⟨by simp [cents], j, hj, h2.1, h2.2.1, h2.2.2, h3⟩
    | succ i =>
      obtain ⟨h5, h6⟩ := ih h4 i (by simpa using h)
      exact ⟨by simp only [List.take_succ_cons, cents]; omega, h6⟩
end Schedules
open Schedules

theorem ReclaimSchedules : wageofficelaw41_ReclaimSchedules.Pure := by
  intro a0 a1 l2 a3 hw0 hw1 hm hl hw hw3
  refine Ev.rounds ?_
  unfold wageofficelaw41_ReclaimSchedules.f
  refine Ev.bind ev_head (Ev.pos (by decide) ?_)
  obtain ⟨o, ho, ho0, ho1⟩ := ev_pick (n := 5000000) (wf_range hw0) (by decide)
  obtain ⟨m, hmm, hm0, hm1⟩ := ev_pick (n := 1159) (wf_range hw1) (by decide)
  have rest : ∀ N : List Int, N.length ≤ 40 → (∀ x ∈ N, -1000000 ≤ x ∧ x ≤ 1000000) → Ev (fun k => wageofficelaw41_ReclaimSchedules.j1 k a0 a1 l2 a3 true N (N.length : Int) false) true := by
    intro N hN hb
    have hall : ∀ M : List Int, (∀ x ∈ M, x ∈ N) → M.all inR = true := fun M hM => List.all_eq_true.mpr (fun x hx => inR_iff.mpr (by have := hb x (hM x hx); omega))
    refine Ev.step (fun k => wageofficelaw41_ReclaimSchedules.j1.eq_2 _ _ _ _ _ _ _ _ _) ?_
    refine Ev.neg (by decide) (Ev.bind0 ho (Ev.bind0 hmm ?_))
    have hs := ev_schedule o m N (by omega)
    rw [schedV_ok ⟨ho0, by omega⟩ ⟨hm0, by omega⟩ (by omega) (by omega) (hall N (fun _ h => h))] at hs
    refine Ev.bind hs ?_
    dsimp only
    have hgood := good_sched N m N.length 0 o (m - 1) (by omega) (by omega)
    rw [List.drop_zero, show m + ((0 : Nat) : Int) = m by omega] at hgood
    have hcents := cents_sched N o m
    have hrest := rest_sched N o m ho0
    have hple := sched_len N o m
    have hle := sched_le N o m ho0
    -- the schedule, continued
    have last : ∀ b : Bool, b = true → Ev (fun k => wageofficelaw41_ReclaimSchedules.j5 k a3 b N o m (sched N o m).1 (sched N o m).2) true := by
      intro b hbt
      refine Ev.step (fun k => wageofficelaw41_ReclaimSchedules.j5.eq_2 _ _ _ _ _ _ _ _) ?_
      rw [w64 (x := (N.length : Int) + 1) (by omega) (by omega)]
      obtain ⟨at_, hat, hat0, hat1⟩ := ev_pick (n := (N.length : Int) + 1) (wf_range hw3) (by omega)
      obtain ⟨t, rfl⟩ := Int.eq_ofNat_of_zero_le hat0
      refine Ev.bind0 hat (Ev.pos hat0 (Ev.pos (by omega) ?_))
      rw [Int.toNat_natCast]
      have ht : t ≤ N.length := by omega
      have htl : (N.take t).length = t := by rw [List.length_take]; omega
      have hdl : (N.drop t).length = N.length - t := by rw [List.length_drop]
      have h1 := ev_schedule o m (N.take t) (by omega)
      rw [schedV_ok ⟨ho0, by omega⟩ ⟨hm0, by omega⟩ (by omega) (by omega) (hall _ (fun x hx => List.mem_of_mem_take hx))] at h1
      refine Ev.bind h1 ?_
      dsimp only
      have hle1 := sched_le (N.take t) o m ho0
      rw [w64 (x := m + (t : Int)) (by omega) (by omega)]
      have h2 := ev_schedule (sched (N.take t) o m).2 (m + t) (N.drop t) (by omega)
      rw [schedV_ok ⟨hle1.1, by omega⟩ ⟨by omega, by omega⟩ (by omega) (by omega) (hall _ (fun x hx => List.mem_of_mem_drop hx))] at h2
      refine Ev.bind h2 ?_
      dsimp only
      have hsp := sched_append (N.take t) (N.drop t) o m
      rw [List.take_append_drop, htl] at hsp
      have hl1 := sched_len (N.take t) o m
      have hl2 := sched_len (N.drop t) (sched (N.take t) o m).2 (m + t)
      refine Ev.pos (by decide) (Ev.bind0 rfl (Ev.pos (by simp; omega) (Ev.bind0 rfl (Ev.pos (by simp; omega) (Ev.pos hbt (Ev.pos rfl (Ev.pos rfl (Ev.pos (by rw [hsp]) ?_))))))))
      refine Ev.bind (ev_plan _ _ (by simp; omega)) ?_
      rw [decide_eq_true (by rw [hsp]; simp)]
      exact Ev.now _
    -- the loop over the instalments
    have third : ∀ (d i : Nat) (sum lst : Int), i + d = (sched N o m).1.length → sum = (sched N o m).2 + cents ((sched N o m).1.take i) → Instals N m lst ((sched N o m).1.drop i) →
        Ev (fun k => wageofficelaw41_ReclaimSchedules.l2 k a3 true N o m (sched N o m).1 (sched N o m).2 0 sum lst (quarters N) (i : Int)) true := by
      intro d
      induction d with
      | zero =>
        intro i sum lst hi hsum hg
        refine Ev.step (fun k => wageofficelaw41_ReclaimSchedules.l2.eq_2 _ _ _ _ _ _ _ _ _ _ _ _ _) ?_
        rw [List.take_of_length_le (by omega)] at hsum
        refine Ev.neg (by omega) (Ev.pos rfl (Ev.pos rfl (Ev.pos (by omega) ?_)))
        have hq0 := quarters_nonneg N
        have hq1 := quarters_bound N hb
        exact last _ (beq_iff_eq.mpr (by rw [hrest, mx_eq, w64 (by omega) (by omega)]))
      | succ d ih =>
        intro i sum lst hi hsum hg
        have hlt : i < (sched N o m).1.length := by omega
        have hg0 := hg
        rw [List.drop_eq_getElem_cons hlt] at hg
        obtain ⟨g1, ⟨j, hj, g2, g3, g4⟩, g5, g6⟩ := hg
        have htk : (sched N o m).1.take (i + 1) = (sched N o m).1.take i ++ [(sched N o m).1[i]] := List.take_succ_eq_append_getElem hlt
        have hc0 := (good_drop _ hgood i hlt).1
        have hbj := hb N[j] (List.getElem_mem _)
        have hcs : cents ((sched N o m).1.take (i + 1)) = cents ((sched N o m).1.take i) + ((sched N o m).1[i]).f1 := by rw [htk, cents_append]; simp [cents]
        have htd : cents ((sched N o m).1.take i) ≤ 1000000000 := by
          have hh := cents_append ((sched N o m).1.take i) ((sched N o m).1.drop i)
          rw [List.take_append_drop] at hh
          have : ∀ (l : List S41) (z : Int), Instals N m z l → 0 ≤ cents l := by
            intro l
            induction l with
            | nil => intro z _; simp [cents]
            | cons x l ihl => intro z hz; have := ihl _ hz.2.2.2; have := hz.2.2.1; simp only [cents]; omega
          have := this _ _ hg0
          omega
        refine Ev.step (fun k => wageofficelaw41_ReclaimSchedules.l2.eq_2 _ _ _ _ _ _ _ _ _ _ _ _ _) ?_
        refine Ev.pos (by omega) (Ev.pos (by omega) ?_)
        rw [rd41_eq _ i hlt, g2, w64 (x := m + (j : Int) - m) (by omega) (by omega)]
        refine Ev.neg (by omega) ?_
        rw [show m + (j : Int) - m = (j : Int) by omega, decide_eq_false (by omega)]
        refine Ev.step (fun k => wageofficelaw41_ReclaimSchedules.j4.eq_2 _ _ _ _ _ _ _ _ _ _ _ _ _ _ _) ?_
        refine Ev.neg (by decide) (Ev.pos rfl (Ev.pos (by omega) (Ev.pos (by omega) ?_)))
        rw [rd41_eq _ i hlt, g2]
        refine Ev.pos (by omega) (Ev.pos g5 (Ev.pos (by omega) (Ev.pos (by omega) ?_)))
        rw [rd_eq N j hj, tdiv_pos g4, w64 (x := N[j] / 4) (by omega) (by omega), decide_eq_true g3, w64 (x := (i : Int) + 1) (by omega) (by omega), w64 (x := sum + ((sched N o m).1[i]).f1) (by omega) (by omega)]
        refine ih (i + 1) _ _ (by omega) (by rw [hcs]; omega) ?_
        rw [g2] at g6
        exact g6
    -- the loop over the quarters
    have second : ∀ (d i : Nat), i + d = N.length → Ev (fun k => wageofficelaw41_ReclaimSchedules.l1 k a3 true N o m (sched N o m).1 (sched N o m).2 0 (sched N o m).2 (m - 1) (quarters (N.take i)) (i : Int)) true := by
      intro d
      induction d with
      | zero =>
        intro i hi
        refine Ev.step (fun k => wageofficelaw41_ReclaimSchedules.l1.eq_2 _ _ _ _ _ _ _ _ _ _ _ _ _) ?_
        refine Ev.neg (by omega) ?_
        rw [List.take_of_length_le (by omega)]
        exact third (sched N o m).1.length 0 _ _ (by omega) (by simp [cents]) (by rw [List.drop_zero]; exact hgood)
      | succ d ih =>
        intro i hi
        have hlt : i < N.length := by omega
        have hbi := hb N[i] (List.getElem_mem _)
        have htl : (N.take i).length = i := by rw [List.length_take]; omega
        have hq0 := quarters_nonneg (N.take i)
        have hq1 := quarters_bound (N.take i) (fun x hx => hb x (List.mem_of_mem_take hx))
        refine Ev.step (fun k => wageofficelaw41_ReclaimSchedules.l1.eq_2 _ _ _ _ _ _ _ _ _ _ _ _ _) ?_
        refine Ev.pos (by omega) (Ev.pos (by omega) ?_)
        rw [rd_eq N i hlt, mx_eq, w64 (x := max N[i] 0 / 4) (by omega) (by omega), w64 (x := quarters (N.take i) + max N[i] 0 / 4) (by omega) (by omega), w64 (x := (i : Int) + 1) (by omega) (by omega)]
        have h := ih (i + 1) (by omega)
        rw [List.take_succ_eq_append_getElem hlt, quarters_snoc] at h
        exact h
    rw [w64 (x := m - 1) (by omega) (by omega)]
    exact second N.length 0 (by omega)
  have first : ∀ (d i : Nat) (N : List Int), i + d = 40 → i ≤ l2.length → N.length = i → (∀ x ∈ N, -1000000 ≤ x ∧ x ≤ 1000000) → Ev (fun k => wageofficelaw41_ReclaimSchedules.l0 k a0 a1 l2 a3 true N (i : Int)) true := by
    intro d
    induction d with
    | zero =>
      intro i N hi hil hN hb
      refine Ev.step (fun k => wageofficelaw41_ReclaimSchedules.l0.eq_2 _ _ _ _ _ _ _ _) ?_
      have hr := rest N (by omega) hb
      rw [hN] at hr
      by_cases hlt : (i : Int) < (l2.length : Int)
      · refine Ev.pos hlt ?_
        rw [decide_eq_false (by omega)]
        exact hr
      · exact Ev.neg hlt hr
    | succ d ih =>
      intro i N hi hil hN hb
      refine Ev.step (fun k => wageofficelaw41_ReclaimSchedules.l0.eq_2 _ _ _ _ _ _ _ _) ?_
      by_cases hlt : i < l2.length
      · obtain ⟨v, hv, hv0, hv1⟩ := ev_pick (n := 2000001) (wf_range (hw _ (rd_mem l2 (i : Int) (by omega) (by omega)))) (by decide)
        refine Ev.pos (by omega) ?_
        refine Ev.step (fun k => wageofficelaw41_ReclaimSchedules.j1.eq_2 _ _ _ _ _ _ _ _ _) ?_
        refine Ev.pos (decide_eq_true (by omega)) (Ev.pos (by omega) (Ev.pos (by omega) (Ev.bind0 hv (Ev.pos (by omega) ?_))))
        rw [w64 (x := v - 1000000) (by omega) (by omega), w64 (x := (i : Int) + 1) (by omega) (by omega)]
        refine ih (i + 1) _ (by omega) (by omega) (by simp; omega) ?_
        intro x hx
        rcases List.mem_append.mp hx with h | h
        · exact hb x h
        · rw [List.mem_singleton.mp h]; omega
      · have hr := rest N (by omega) hb
        rw [hN] at hr
        exact Ev.neg (by omega) hr
  exact first 40 0 [] (by omega) (by omega) rfl (by simp)

end Go.Proofs.Ytpgghakjbghagaa.Pure
