/- What is still too much after each month is what Schedule says remains, and the payments are the net amounts less the instalments. No conditions. -/
import Derived.Test.YtpgghakjbghagaaHpx9
import Derived.Test.YtpgghakjbghagaaPSchedule
set_option linter.unusedVariables false
namespace Go.Proofs.Ytpgghakjbghagaa.Pure
open Go.RowKit Go.Proofs.Ytpgghakjbghagaa.Hp Go.Proofs.Ytpgghakjbghagaa.PEv Go.Proofs.Ytpgghakjbghagaa.PReclaim Go.Proofs.Ytpgghakjbghagaa.PSchedule Go.Proofs.YtpgghakjbghagaaW.PrintWords Go.Proofs.YtpgghakjbghagaaW.PrintLast Go.Proofs.YtpgghakjbghagaaW.PrintMore

namespace TooMuch
def sums : Int → List Int → List Int
  | _, [] => []
  | s, a :: l => (s + a) :: sums (s + a) l
theorem sums_length (l : List Int) : ∀ s, (sums s l).length = l.length := by
  induction l with
  | nil => intro s; rfl
  | cons a l ih => intro s; simp [sums, ih]
theorem sums_snoc (l : List Int) (a : Int) : ∀ s : Int, sums s (l ++ [a]) = sums s l ++ [s + l.sum + a] := by
  induction l with
  | nil => intro s; simp [sums]
  | cons b l ih => intro s; simp [sums, ih]; omega
theorem sums_get (l : List Int) : ∀ (s : Int) (i : Nat) (h : i < (sums s l).length), (sums s l)[i] = s + (l.take (i + 1)).sum := by
  induction l with
  | nil => intro s i h; simp [sums] at h
  | cons a l ih =>
    intro s i h
    cases i with
    | zero => simp [sums]
    | succ i => simp only [sums, List.getElem_cons_succ, List.take_succ_cons, List.sum_cons]; rw [ih]; omega
theorem sum_bound (l : List Int) (ha : ∀ x ∈ l, 0 ≤ x ∧ x ≤ 1000000000) : 0 ≤ l.sum ∧ l.sum ≤ 1000000000 * (l.length : Int) := by
  induction l with
  | nil => simp
  | cons a l ih =>
    have h := ih (fun x hx => ha x (by simp [hx]))
    have hb := ha a (by simp)
    simp only [List.sum_cons, List.length_cons]
    omega
/-- What remains after each month. -/
def rests : Int → List Int → List Int
  | _, [] => []
  | r, a :: l => (r - min r (a / 4)) :: rests (r - min r (a / 4)) l
theorem rests_length (l : List Int) : ∀ s, (rests s l).length = l.length := by
  induction l with
  | nil => intro s; rfl
  | cons a l ih => intro s; simp [rests, ih]
/-- What is paid: what is due, and the rest. -/
def paid : Int → Int → List Int → List Int
  | _, _, [] => []
  | s, r, a :: l => (s + a + (r - min r (a / 4))) :: paid (s + a) (r - min r (a / 4)) l
theorem paid_length (l : List Int) : ∀ s r, (paid s r l).length = l.length := by
  induction l with
  | nil => intro s r; rfl
  | cons a l ih => intro s r; simp [paid, ih]
theorem fold_paid (l : List Int) : ∀ s r : Int, 0 ≤ s → 0 ≤ r ∧ r ≤ 1000000000 → s + 1000000000 * (l.length : Int) ≤ 100000000000 → (∀ x ∈ l, 0 ≤ x ∧ x ≤ 1000000000) → foldR (sums s l) l (s + r) = some (paid s r l) := by
  induction l with
  | nil => intro s r _ _ _ _; rfl
  | cons a l ih =>
    intro s r h0 hr h1 ha
    have hb := ha a (by simp)
    simp only [List.length_cons] at h1
    have hp : pay (s + a) (s + r) a = a - min r (a / 4) := by unfold pay; omega
    have hn : next (s + a) (s + r) a = (a - min r (a / 4), 0) := by
      unfold next
      rw [hp, inR_iff.mpr ⟨by omega, by omega⟩, inR_iff.mpr ⟨by omega, by omega⟩, inR_iff.mpr ⟨by omega, by omega⟩, inR_iff.mpr ⟨by omega, by omega⟩]
      rfl
    rw [sums, foldR, hn, if_pos ⟨rfl, inR_iff.mpr ⟨by omega, by omega⟩⟩]
    simp only
    rw [show s + r + (a - min r (a / 4)) = (s + a) + (r - min r (a / 4)) by omega, ih (s + a) (r - min r (a / 4)) (by omega) (by omega) (by omega) (fun x hx => ha x (by simp [hx]))]
    rfl
theorem paid_get (l : List Int) : ∀ (s o m : Int) (i : Nat) (h : i < (paid s o l).length), (∀ x ∈ l, 0 ≤ x ∧ x ≤ 1000000000) → 0 ≤ o → (paid s o l)[i] = s + (l.take (i + 1)).sum + (sched (l.take (i + 1)) o m).2 := by
  induction l with
  | nil => intro s o m i h; simp [paid] at h
  | cons a l ih =>
    intro s o m i h ha ho
    have hb := ha a (by simp)
    have hx : ∀ (ns : List Int), (sched (a :: ns) o m).2 = (sched ns (o - min o (a / 4)) (m + 1)).2 := by
      intro ns
      rw [sched, show max a 0 = a by omega]
      by_cases hk : min o (a / 4) > 0
      · rw [if_pos hk]
      · rw [if_neg hk, show o - min o (a / 4) = o by omega]
    cases i with
    | zero =>
      have h0 := hx []
      rw [sched_nil] at h0
      simp only [paid, List.getElem_cons_zero, List.take_succ_cons, List.take_zero, List.sum_cons, List.sum_nil]
      rw [h0]
      omega
    | succ i =>
      simp only [paid, List.getElem_cons_succ, List.take_succ_cons, List.sum_cons]
      rw [ih (s + a) (o - min o (a / 4)) (m + 1) i _ (fun x hx => ha x (by simp [hx])) (by omega), hx]
      omega
end TooMuch
open TooMuch

theorem ReclaimTooMuch : wageofficelaw41_ReclaimTooMuch.Pure := by
  intro a0 l a2 hw0 hm hl hw hw2
  obtain ⟨A, hA, hlen, hb⟩ := ev_amounts l hw (by omega)
  obtain ⟨o, ho, ho0, ho1⟩ := ev_pick (n := 1000000001) (wf_range hw0) (by decide)
  obtain ⟨m, hmm, hm0, hm1⟩ := ev_pick (n := 1159) (wf_range hw2) (by decide)
  refine Ev.rounds ?_
  unfold wageofficelaw41_ReclaimTooMuch.f
  refine Ev.bind ev_head (Ev.bind hA (Ev.bind0 ho (Ev.bind0 hmm ?_)))
  have hall : ∀ i, (A.take i).all inR = true := fun i => List.all_eq_true.mpr (fun x hx => inR_iff.mpr (by have := hb x (List.mem_of_mem_take hx); omega))
  have hfold : Ev (fun k => reclaim_Fold.f k (o :: 0 :: sums 0 A) (o :: 0 :: A)) (o :: o :: paid 0 o A, 0) := by
    have h := ev_fold (o :: 0 :: sums 0 A) (o :: 0 :: A) (by simp [sums_length]) (by simp [sums_length]; omega)
    have n1 : next o 0 o = (o, 0) := by
      have hp : pay o 0 o = o := by unfold pay; omega
      unfold next
      rw [hp, inR_iff.mpr ⟨by omega, by omega⟩]
      rfl
    have n2 : next 0 o 0 = (0, 0) := by
      have hp : pay 0 o 0 = 0 := by unfold pay; omega
      unfold next
      rw [hp, show inR o = true from inR_iff.mpr ⟨by omega, by omega⟩]
      rfl
    rw [foldR, n1, if_pos ⟨rfl, inR_iff.mpr ⟨by omega, by omega⟩⟩, foldR] at h
    simp only [Int.zero_add] at h
    rw [n2, if_pos ⟨rfl, inR_iff.mpr ⟨by omega, by omega⟩⟩] at h
    simp only [Int.add_zero] at h
    have hf := fold_paid A 0 o (by omega) ⟨ho0, by omega⟩ (by omega) hb
    rw [Int.zero_add] at hf
    rw [hf] at h
    exact h
  -- the second loop
  have second : ∀ (d i : Nat), i + d = A.length + 1 → Ev (fun k => wageofficelaw41_ReclaimTooMuch.l1 k true A o m (o :: 0 :: sums 0 A) (o :: o :: paid 0 o A) (i : Int)) true := by
    intro d
    induction d with
    | zero =>
      intro i hi
      refine Ev.step (fun k => wageofficelaw41_ReclaimTooMuch.l1.eq_2 _ _ _ _ _ _ _ _) ?_
      exact Ev.neg (by omega) (Ev.now _)
    | succ d ih =>
      intro i hi
      have hil : i ≤ A.length := by omega
      refine Ev.step (fun k => wageofficelaw41_ReclaimTooMuch.l1.eq_2 _ _ _ _ _ _ _ _) ?_
      refine Ev.pos (by omega) (Ev.pos (by omega) ?_)
      rw [Int.toNat_natCast]
      have hs := ev_schedule o m (A.take i) (by rw [List.length_take]; omega)
      have htl : (A.take i).length = i := by rw [List.length_take]; omega
      rw [schedV_ok ⟨ho0, by omega⟩ ⟨hm0, by omega⟩ (by omega) (by omega) (hall i)] at hs
      refine Ev.bind hs ?_
      dsimp only
      -- the rest of the round, once what was kept back is known
      have third : ∀ kept : Int, (i ≠ 0 → ∃ r0 : Int, (sched (A.take (i - 1)) o m).2 = r0 ∧ kept = min r0 ((A.getD (i - 1) 0) / 4) ∧ (sched (A.take i) o m).2 = r0 - kept) →
          (Ev (fun k => if true = true then (if (0 : Int) = 0 then (if 0 ≤ (wrap64 ((i : Int) + 1)) then (if (wrap64 ((i : Int) + 1)) < ((o :: o :: paid 0 o A).length : Int) then (if (wrap64 ((i : Int) + 1)) < ((o :: 0 :: sums 0 A).length : Int) then (if (wrap64 ((rd (o :: o :: paid 0 o A) (wrap64 ((i : Int) + 1))) - (rd (o :: 0 :: sums 0 A) (wrap64 ((i : Int) + 1))))) = (sched (A.take i) o m).2 then (if (i : Int) = 0 then (wageofficelaw41_ReclaimTooMuch.l1 k true A o m (o :: 0 :: sums 0 A) (o :: o :: paid 0 o A) (wrap64 ((i : Int) + 1))) else (if 0 ≤ (i : Int) then (if (i : Int) < ((o :: o :: paid 0 o A).length : Int) then (if 0 ≤ (wrap64 ((i : Int) - 1)) then (if (wrap64 ((i : Int) - 1)) < (A.length : Int) then (wageofficelaw41_ReclaimTooMuch.l1 k ((wrap64 ((rd (o :: o :: paid 0 o A) (wrap64 ((i : Int) + 1))) - (rd (o :: o :: paid 0 o A) (i : Int)))) == (wrap64 ((rd A (wrap64 ((i : Int) - 1))) - kept))) A o m (o :: 0 :: sums 0 A) (o :: o :: paid 0 o A) (wrap64 ((i : Int) + 1))) else (none)) else (none)) else (none)) else (none))) else (none)) else (none)) else (none)) else (none)) else (none)) else (none)) true) := by
        intro kept hkept
        have go := ih (i + 1) (by omega)
        rw [w64 (x := (i : Int) + 1) (by omega) (by omega)]
        refine Ev.pos rfl (Ev.pos rfl (Ev.pos (by omega) (Ev.pos (by simp [paid_length]; omega) (Ev.pos (by simp [sums_length]; omega) ?_))))
        have hpl : (paid 0 o A).length = A.length := paid_length A 0 o
        have hsl : (sums 0 A).length = A.length := sums_length A 0
        have hle := sched_le (A.take i) o m ho0
        have hsb := sum_bound (A.take i) (fun x hx => hb x (List.mem_of_mem_take hx))
        cases i with
        | zero =>
          refine Ev.pos ?_ (Ev.pos rfl go)
          show wrap64 (o - 0) = o
          rw [Int.sub_zero, w64 (by omega) (by omega)]
        | succ j =>
          have e1 : rd (o :: o :: paid 0 o A) (((j + 1 : Nat) : Int) + 1) = (A.take (j + 1)).sum + (sched (A.take (j + 1)) o m).2 := by
            have : (((j + 1 : Nat) : Int) + 1) = ((j + 2 : Nat) : Int) := by omega
            rw [this, rd_eq _ _ (by simp [hpl]; omega)]
            simp only [List.getElem_cons_succ]
            rw [paid_get A 0 o m j (by omega) hb ho0]
            omega
          have e2 : rd (o :: 0 :: sums 0 A) (((j + 1 : Nat) : Int) + 1) = (A.take (j + 1)).sum := by
            have : (((j + 1 : Nat) : Int) + 1) = ((j + 2 : Nat) : Int) := by omega
            rw [this, rd_eq _ _ (by simp [hsl]; omega)]
            simp only [List.getElem_cons_succ]
            rw [sums_get A 0 j (by omega)]
            omega
          obtain ⟨r0, hr0, hk, hnow⟩ := hkept (by omega)
          simp only [Nat.add_sub_cancel] at hr0 hk
          have hj : j < A.length := by omega
          have hAj : A.getD j 0 = A[j] := by simp [List.getD_eq_getElem?_getD, List.getElem?_eq_getElem hj]
          rw [hAj] at hk
          have bj := hb A[j] (List.getElem_mem _)
          have hle0 := sched_le (A.take j) o m ho0
          have hsuc : A.take (j + 1) = A.take j ++ [A[j]] := List.take_succ_eq_append_getElem hj
          have hsb0 := sum_bound (A.take j) (fun x hx => hb x (List.mem_of_mem_take hx))
          have htl0 : (A.take j).length = j := by rw [List.length_take]; omega
          have hsum : (A.take (j + 1)).sum = (A.take j).sum + A[j] := by rw [hsuc, List.sum_append]; simp
          have e3 : rd (o :: o :: paid 0 o A) ((j + 1 : Nat) : Int) = (A.take j).sum + (sched (A.take j) o m).2 := by
            rw [rd_eq _ _ (by simp [hpl]; omega)]
            cases j with
            | zero => simp [sched]
            | succ i =>
              simp only [List.getElem_cons_succ]
              rw [paid_get A 0 o m i (by omega) hb ho0]
              omega
          rw [e1, e2]
          refine Ev.pos ?_ (Ev.neg (by omega) (Ev.pos (by omega) (Ev.pos (by simp [hpl]; omega) ?_)))
          · rw [w64 (by omega) (by omega)]; omega
          have e4 : wrap64 (((j + 1 : Nat) : Int) - 1) = (j : Int) := by rw [w64 (by omega) (by omega)]; omega
          rw [e4]
          refine Ev.pos (by omega) (Ev.pos (by omega) ?_)
          rw [e3, rd_eq A j hj]
          rw [show ((wrap64 ((A.take (j + 1)).sum + (sched (A.take (j + 1)) o m).2 - ((A.take j).sum + (sched (A.take j) o m).2)) == wrap64 (A[j] - kept)) : Bool) = true from beq_iff_eq.mpr (by congr 1; omega)]
          exact go
      cases i with
      | zero =>
        rw [show A.take 0 = [] from rfl, sched_nil]
        refine Ev.neg (by simp) ?_
        refine Ev.step (fun k => wageofficelaw41_ReclaimTooMuch.j3.eq_2 _ _ _ _ _ _ _ _ _ _ _ _ _) ?_
        refine Ev.neg (by decide) ?_
        exact third 0 (fun h => absurd rfl h)
      | succ j =>
        have hj : j < A.length := by omega
        have bj := hb A[j] (List.getElem_mem _)
        have hAj : A.getD j 0 = A[j] := by simp [List.getD_eq_getElem?_getD, List.getElem?_eq_getElem hj]
        have hsuc : A.take (j + 1) = A.take j ++ [A[j]] := List.take_succ_eq_append_getElem hj
        have htl0 : (A.take j).length = j := by rw [List.length_take]; omega
        have happ := sched_append (A.take j) [A[j]] o m
        rw [← hsuc, htl0] at happ
        have hmon := sched_months (A.take j) o m
        rw [htl0] at hmon
        have hle0 := sched_le (A.take j) o m ho0
        have hlen0 := sched_len (A.take j) o m
        obtain ⟨sj, hsj⟩ : ∃ s, sched (A.take j) o m = s := ⟨_, rfl⟩
        rw [hsj] at happ hmon hle0 hlen0
        have e5 : wrap64 (wrap64 (m + ((j + 1 : Nat) : Int)) - 1) = m + j := by rw [w64 (x := m + ((j + 1 : Nat) : Int)) (by omega) (by omega), w64 (by omega) (by omega)]; omega
        rw [e5]
        by_cases hk : min sj.2 (A[j] / 4) > 0
        · have hone : sched [A[j]] sj.2 (m + j) = ([⟨m + j, min sj.2 (A[j] / 4)⟩], sj.2 - min sj.2 (A[j] / 4)) := by
            rw [sched, show max A[j] 0 = A[j] by omega, if_pos hk]
            rfl
          rw [hone] at happ
          dsimp only at happ
          have hlast : rd_T41 (sched (A.take (j + 1)) o m).1 (((sched (A.take (j + 1)) o m).1.length : Int) - 1) = ⟨m + j, min sj.2 (A[j] / 4)⟩ := by
            rw [happ]
            dsimp only
            rw [List.length_append, List.length_singleton, show (((sj.1.length + 1 : Nat) : Int) - 1) = ((sj.1.length : Nat) : Int) by omega, rd41_eq _ _ (by simp)]
            simp
          have hL : (sched (A.take (j + 1)) o m).1.length = sj.1.length + 1 := by rw [happ]; simp
          have e6 : wrap64 (((sched (A.take (j + 1)) o m).1.length : Int) - 1) = ((sched (A.take (j + 1)) o m).1.length : Int) - 1 := w64 (by omega) (by omega)
          refine Ev.pos (by omega) (Ev.pos (by omega) (Ev.pos (by rw [e6]; omega) (Ev.pos (by rw [e6]; omega) ?_)))
          rw [e6, hlast]
          refine Ev.step (fun k => wageofficelaw41_ReclaimTooMuch.j3.eq_2 _ _ _ _ _ _ _ _ _ _ _ _ _) ?_
          refine Ev.pos (beq_iff_eq.mpr rfl) (Ev.pos (by rw [e6]; omega) (Ev.pos (by rw [e6]; omega) ?_))
          rw [e6, hlast]
          exact third (min sj.2 (A[j] / 4)) (fun _ => ⟨sj.2, by simp only [Nat.add_sub_cancel]; rw [hsj], by simp only [Nat.add_sub_cancel]; rw [hAj], by rw [happ]⟩)
        · have hone : sched [A[j]] sj.2 (m + j) = ([], sj.2) := by
            rw [sched, show max A[j] 0 = A[j] by omega, if_neg hk]
            rfl
          rw [hone, List.append_nil] at happ
          dsimp only at happ
          have hcase : Ev (fun k => wageofficelaw41_ReclaimTooMuch.j3 k true A o m (o :: 0 :: sums 0 A) (o :: o :: paid 0 o A) ((j + 1 : Nat) : Int) (sched (A.take (j + 1)) o m).1 (sched (A.take (j + 1)) o m).2 0 0 false) true := by
            refine Ev.step (fun k => wageofficelaw41_ReclaimTooMuch.j3.eq_2 _ _ _ _ _ _ _ _ _ _ _ _ _) ?_
            refine Ev.neg (by decide) ?_
            exact third 0 (fun _ => ⟨sj.2, by simp only [Nat.add_sub_cancel]; rw [hsj], by simp only [Nat.add_sub_cancel]; rw [hAj]; omega, by rw [happ]; simp⟩)
          by_cases hL : ((sched (A.take (j + 1)) o m).1.length : Int) > 0
          · have e6 : wrap64 (((sched (A.take (j + 1)) o m).1.length : Int) - 1) = ((sched (A.take (j + 1)) o m).1.length : Int) - 1 := by
              have : (sched (A.take (j + 1)) o m).1.length ≤ j := by rw [happ]; exact Nat.le_trans hlen0 (by omega)
              exact w64 (by omega) (by omega)
            refine Ev.pos hL (Ev.pos (by omega) (Ev.pos (by rw [e6]; omega) (Ev.pos (by rw [e6]; omega) ?_)))
            rw [e6]
            have hne : (rd_T41 (sched (A.take (j + 1)) o m).1 (((sched (A.take (j + 1)) o m).1.length : Int) - 1)).f0 ≠ m + j := by
              have hmem : rd_T41 (sched (A.take (j + 1)) o m).1 (((sched (A.take (j + 1)) o m).1.length : Int) - 1) ∈ sj.1 := by
                have e7 : (((sched (A.take (j + 1)) o m).1.length : Int) - 1) = (((sched (A.take (j + 1)) o m).1.length - 1 : Nat) : Int) := by omega
                rw [e7, rd41_eq _ _ (by omega)]
                have : (sched (A.take (j + 1)) o m).1 = sj.1 := by rw [happ]
                simp only [this]
                exact List.getElem_mem _
              have := hmon _ hmem
              omega
            rw [show (((rd_T41 (sched (A.take (j + 1)) o m).1 (((sched (A.take (j + 1)) o m).1.length : Int) - 1)).f0 == m + j) : Bool) = false from beq_eq_false_iff_ne.mpr hne]
            exact hcase
          · exact Ev.neg hL hcase
  -- the first loop
  have first : ∀ (d i : Nat), i + d = A.length → Ev (fun k => wageofficelaw41_ReclaimTooMuch.l0 k true A o m (o :: 0 :: sums 0 (A.take i)) (o :: 0 :: A.take i) (A.take i).sum (i : Int)) true := by
    intro d
    induction d with
    | zero =>
      intro i hi
      refine Ev.step (fun k => wageofficelaw41_ReclaimTooMuch.l0.eq_2 _ _ _ _ _ _ _ _ _) ?_
      refine Ev.neg (by omega) ?_
      rw [List.take_of_length_le (by omega)]
      refine Ev.bind hfold (Ev.pos rfl (Ev.pos (by simp [paid_length, sums_length]) (Ev.pos (by simp; omega) (Ev.pos rfl (Ev.pos (by simp; omega) ?_)))))
      refine Ev.step (fun k => wageofficelaw41_ReclaimTooMuch.j1.eq_2 _ _ _ _ _ _ _ _) ?_
      refine Ev.neg (by show ¬ ((o != o) = true); simp) ?_
      exact second (A.length + 1) 0 (by omega)
    | succ d ih =>
      intro i hi
      have h0 : i < A.length := by omega
      have hs := sum_bound (A.take i) (fun x hx => hb x (List.mem_of_mem_take hx))
      have ht : (A.take i).length = i := by rw [List.length_take]; omega
      have hx := hb A[i] (List.getElem_mem _)
      have hsucc : A.take (i + 1) = A.take i ++ [A[i]] := List.take_succ_eq_append_getElem h0
      refine Ev.step (fun k => wageofficelaw41_ReclaimTooMuch.l0.eq_2 _ _ _ _ _ _ _ _ _) ?_
      refine Ev.pos (by omega) (Ev.pos (by omega) (Ev.pos (by simp [sums_length]; omega) (Ev.pos (by simp; omega) ?_)))
      rw [rd_eq A i h0, w64 (x := (A.take i).sum + A[i]) (by omega) (by omega), w64 (x := (i : Int) + 1) (by omega) (by omega)]
      have h := ih (i + 1) (by omega)
      rw [hsucc, sums_snoc, List.sum_append] at h
      simpa using h
  exact first A.length 0 (by omega)

end Go.Proofs.Ytpgghakjbghagaa.Pure
