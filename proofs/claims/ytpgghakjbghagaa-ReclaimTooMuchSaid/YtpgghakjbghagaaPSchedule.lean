/- What Schedule of package reclaim computes, in plain numbers and lists. Conditions: the sum and the net amounts are in range, and so are the months. -/
import Derived.Test.YtpgghakjbghagaaHpx4
import Derived.Test.YtpgghakjbghagaaPReclaim
set_option linter.unusedVariables false
namespace Go.Proofs.Ytpgghakjbghagaa.PSchedule
open Go.RowKit Go.Proofs.Ytpgghakjbghagaa.Hp Go.Proofs.Ytpgghakjbghagaa.PEv Go.Proofs.Ytpgghakjbghagaa.PReclaim Go.Proofs.YtpgghakjbghagaaW.PrintWords Go.Proofs.YtpgghakjbghagaaW.PrintLast Go.Proofs.YtpgghakjbghagaaW.PrintMore

/-- What is kept back of successive net amounts, month by month, and what remains. -/
def sched : List Int → Int → Int → List S41 × Int
  | [], o, _ => ([], o)
  | n :: ns, o, m => if min o (max n 0 / 4) > 0 then (⟨m, min o (max n 0 / 4)⟩ :: (sched ns (o - min o (max n 0 / 4)) (m + 1)).1, (sched ns (o - min o (max n 0 / 4)) (m + 1)).2) else sched ns o (m + 1)
theorem sched_nil (o m : Int) : sched [] o m = ([], o) := rfl
theorem sched_append (xs : List Int) : ∀ (ys : List Int) (o m : Int), sched (xs ++ ys) o m = ((sched xs o m).1 ++ (sched ys (sched xs o m).2 (m + xs.length)).1, (sched ys (sched xs o m).2 (m + xs.length)).2) := by
  induction xs with
  | nil => intro ys o m; simp [sched]
  | cons n xs ih =>
    intro ys o m
    rw [List.cons_append, sched, sched]
    by_cases h : min o (max n 0 / 4) > 0
    · rw [if_pos h, if_pos h, ih, show m + 1 + (xs.length : Int) = m + ((n :: xs).length : Nat) by simp only [List.length_cons]; omega]
      rfl
    · rw [if_neg h, if_neg h, ih, show m + 1 + (xs.length : Int) = m + ((n :: xs).length : Nat) by simp only [List.length_cons]; omega]
theorem sched_le (xs : List Int) : ∀ (o m : Int), 0 ≤ o → 0 ≤ (sched xs o m).2 ∧ (sched xs o m).2 ≤ o := by
  induction xs with
  | nil => intro o m h; simp [sched]; omega
  | cons n xs ih =>
    intro o m h
    rw [sched]
    by_cases hk : min o (max n 0 / 4) > 0
    · rw [if_pos hk]
      have := ih (o - min o (max n 0 / 4)) (m + 1) (by omega)
      omega
    · rw [if_neg hk]
      exact ih o (m + 1) h
theorem sched_len (xs : List Int) : ∀ (o m : Int), (sched xs o m).1.length ≤ xs.length := by
  induction xs with
  | nil => intro o m; simp [sched]
  | cons n xs ih =>
    intro o m
    rw [sched]
    split
    · have := ih (o - min o (max n 0 / 4)) (m + 1); simp; omega
    · have := ih o (m + 1); simp; omega
theorem sched_months (xs : List Int) : ∀ (o m : Int), ∀ x ∈ (sched xs o m).1, m ≤ x.f0 ∧ x.f0 < m + xs.length := by
  induction xs with
  | nil => intro o m x hx; simp [sched] at hx
  | cons n xs ih =>
    intro o m x hx
    rw [sched] at hx
    simp only [List.length_cons]
    split at hx
    · rcases List.mem_cons.mp hx with rfl | hx
      · exact ⟨by simp, by simp; omega⟩
      · have := ih _ _ x hx; omega
    · have := ih _ _ x hx; omega

theorem ev_schedl (ns : List Int) (hall : ns.all inR = true) (hs : ns.length ≤ 600) (m : Int) (hm : 0 ≤ m ∧ m ≤ 1199) :
    ∀ (d i : Nat) (o : Int) (out : List S41), i + d = ns.length → out.length ≤ i → 0 ≤ o ∧ o ≤ 1000000000000 →
      Ev (fun k => reclaim_Schedule.l0 k o m out ns (ns.length : Int) (i : Int)) (out ++ (sched (ns.drop i) o (m + i)).1, (sched (ns.drop i) o (m + i)).2, 0) := by
  intro d
  induction d with
  | zero =>
    intro i o out hi hout ho
    refine Ev.step (fun k => reclaim_Schedule.l0.eq_2 _ _ _ _ _ _ _) ?_
    refine Ev.neg (by omega) ?_
    rw [List.drop_eq_nil_of_le (by omega), sched_nil, List.append_nil]
    exact Ev.now _
  | succ d ih =>
    intro i o out hi hout ho
    have hlt : i < ns.length := by omega
    have hin := inR_iff.mp (List.all_eq_true.mp hall ns[i] (List.getElem_mem _))
    refine Ev.step (fun k => reclaim_Schedule.l0.eq_2 _ _ _ _ _ _ _) ?_
    refine Ev.pos (by omega) (Ev.pos (by omega) (Ev.pos (by omega) ?_))
    rw [rd_eq ns i hlt, mx_eq]
    refine Ev.bind (ev_part (n := max ns[i] 0) (inR_iff.mpr ⟨by omega, by omega⟩)) ?_
    simp only [mn_eq]
    rw [w64 (x := (i : Int) + 1) (by omega) (by omega), List.drop_eq_getElem_cons hlt, sched]
    by_cases hk : min o (max ns[i] 0 / 4) > 0
    · refine Ev.pos hk (Ev.pos (by omega) ?_)
      rw [w64 (x := o - min o (max ns[i] 0 / 4)) (by omega) (by omega), w64 (x := m + (i : Int)) (by omega) (by omega), if_pos hk]
      refine Ev.eq (ih (i + 1) _ _ (by omega) (by simp; omega) (by omega)) ?_
      simp [Int.add_assoc]
    · refine Ev.neg hk ?_
      rw [if_neg hk]
      refine Ev.eq (ih (i + 1) _ _ (by omega) (by omega) ho) ?_
      simp [Int.add_assoc]
/-- Schedule, errors and all. -/
def schedV (o m : Int) (ns : List Int) : List S41 × Int × Int :=
  if o < 0 ∨ m < 0 ∨ m > 1199 then ([], 0, 1) else if ns.length > 600 ∨ m + ns.length - 1 > 1199 then ([], 0, 2) else if inR o = true ∧ ns.all inR = true then ((sched ns o m).1, (sched ns o m).2, 0) else ([], 0, 3)
theorem ev_schedule (o m : Int) (ns : List Int) (hl : ns.length ≤ 4611686018427387904) : Ev (fun k => reclaim_Schedule.f k o m ns) (schedV o m ns) := by
  have bad : ∀ {o' m' : Int}, Ev (fun k => reclaim_Schedule.j0 k o' m' ns true) ([], 0, 1) := by
    intro o' m'
    refine Ev.step (fun k => reclaim_Schedule.j0.eq_2 _ _ _ _ _) ?_
    exact Ev.pos rfl (Ev.now _)
  unfold reclaim_Schedule.f schedV
  by_cases h1 : o < 0
  · rw [if_pos (Or.inl h1)]
    exact Ev.pos h1 bad
  by_cases h2 : m < 0
  · rw [if_pos (Or.inr (Or.inl h2))]
    exact Ev.neg h1 (Ev.pos h2 bad)
  refine Ev.neg h1 (Ev.neg h2 ?_)
  by_cases h3 : m > 1199
  · rw [if_pos (Or.inr (Or.inr h3)), decide_eq_true h3]
    exact bad
  rw [if_neg (by omega), decide_eq_false h3]
  refine Ev.step (fun k => reclaim_Schedule.j0.eq_2 _ _ _ _ _) ?_
  refine Ev.neg (by decide) ?_
  have lim : Ev (fun k => reclaim_Schedule.j1 k o m ns true) ([], 0, 2) := by
    refine Ev.step (fun k => reclaim_Schedule.j1.eq_2 _ _ _ _ _) ?_
    exact Ev.pos rfl (Ev.now _)
  by_cases h4 : ns.length > 600
  · rw [if_pos (Or.inl h4)]
    exact Ev.pos (by omega) lim
  refine Ev.neg (by omega) ?_
  rw [w64 (x := m + (ns.length : Int)) (by omega) (by omega), w64 (x := m + (ns.length : Int) - 1) (by omega) (by omega)]
  by_cases h5 : m + (ns.length : Int) - 1 > 1199
  · rw [if_pos (Or.inr h5), decide_eq_true h5]
    exact lim
  rw [if_neg (by omega), decide_eq_false h5]
  refine Ev.step (fun k => reclaim_Schedule.j1.eq_2 _ _ _ _ _) ?_
  refine Ev.neg (by decide) (Ev.bind (ev_inRange [o] (by simp)) ?_)
  rw [List.all_cons, List.all_nil, Bool.and_true]
  cases hio : inR o with
  | false =>
    rw [if_neg (by simp)]
    refine Ev.neg (by decide) ?_
    refine Ev.step (fun k => reclaim_Schedule.j2.eq_2 _ _ _ _ _) ?_
    exact Ev.pos rfl (Ev.now _)
  | true =>
    refine Ev.pos rfl (Ev.bind (ev_inRange ns (by omega)) ?_)
    refine Ev.step (fun k => reclaim_Schedule.j2.eq_2 _ _ _ _ _) ?_
    cases hall : ns.all inR with
    | false =>
      rw [if_neg (by simp)]
      exact Ev.pos rfl (Ev.now _)
    | true =>
      rw [if_pos ⟨rfl, rfl⟩]
      refine Ev.neg (by decide) ?_
      have h := inR_iff.mp hio
      have := ev_schedl ns hall (by omega) m ⟨by omega, by omega⟩ ns.length 0 o [] (by omega) (by simp) ⟨by omega, by omega⟩
      simpa using this
theorem schedV_ok {o m : Int} {ns : List Int} (ho : 0 ≤ o ∧ o ≤ 1000000000000) (hm : 0 ≤ m ∧ m + ns.length ≤ 1200) (hm2 : m ≤ 1199) (hl : ns.length ≤ 600) (hall : ns.all inR = true) : schedV o m ns = ((sched ns o m).1, (sched ns o m).2, 0) := by
  unfold schedV
  rw [if_neg (by omega), if_neg (by omega), if_pos ⟨inR_iff.mpr ⟨by omega, ho.2⟩, hall⟩]
instance : DecidableEq S41 := fun a b => if h : a.f0 = b.f0 ∧ a.f1 = b.f1 then .isTrue (by cases a; cases b; simp at h; simp [h]) else .isFalse (fun e => h ⟨by rw [e], by rw [e]⟩)
theorem rd41_eq (l : List S41) (i : Nat) (h : i < l.length) : rd_T41 l (i : Int) = l[i] := by
  unfold rd_T41
  simp [List.getD_eq_getElem?_getD, List.getElem?_eq_getElem h]
theorem ev_plan (a b : List S41) (ha : a.length ≤ 4611686018427387904) : Ev (fun k => wageofficeref41_SamePlan.f k a b) (decide (a = b)) := by
  unfold wageofficeref41_SamePlan.f
  by_cases hl : a.length = b.length
  · refine Ev.pos (by omega) ?_
    have key : ∀ (d i : Nat), i + d = a.length → a.take i = b.take i → Ev (fun k => wageofficeref41_SamePlan.l0 k a b (i : Int)) (decide (a = b)) := by
      intro d
      induction d with
      | zero =>
        intro i hi he
        refine Ev.step (fun k => wageofficeref41_SamePlan.l0.eq_2 _ _ _ _) ?_
        refine Ev.neg (by omega) ?_
        rw [List.take_of_length_le (by omega), List.take_of_length_le (by omega)] at he
        rw [decide_eq_true he]
        exact Ev.now _
      | succ d ih =>
        intro i hi he
        have h0 : i < a.length := by omega
        have h1 : i < b.length := by omega
        refine Ev.step (fun k => wageofficeref41_SamePlan.l0.eq_2 _ _ _ _) ?_
        refine Ev.pos (by omega) (Ev.pos (by omega) (Ev.pos (by omega) ?_))
        rw [rd41_eq a i h0, rd41_eq b i h1]
        by_cases hx : a[i] = b[i]
        · refine Ev.neg (by rw [hx]; simp) ?_
          rw [w64 (x := (i : Int) + 1) (by omega) (by omega)]
          exact ih (i + 1) (by omega) (by rw [List.take_succ_eq_append_getElem h0, List.take_succ_eq_append_getElem h1, he, hx])
        · refine Ev.pos ?_ ?_
          · have : ¬ (a[i].f0 = b[i].f0 ∧ a[i].f1 = b[i].f1) := fun h => hx (by
              cases ea : a[i]; cases eb : b[i]; rw [ea, eb] at h; simp at h; simp [h])
            by_cases e0 : a[i].f0 = b[i].f0 <;> by_cases e1 : a[i].f1 = b[i].f1 <;> simp [e0, e1]
            exact this ⟨e0, e1⟩
          · rw [decide_eq_false (by intro h; subst h; exact hx rfl)]
            exact Ev.now _
    simpa using key a.length 0 (by omega) (by simp)
  · refine Ev.neg (by omega) ?_
    rw [decide_eq_false (by intro h; subst h; exact hl rfl)]
    exact Ev.now _
end Go.Proofs.Ytpgghakjbghagaa.PSchedule
