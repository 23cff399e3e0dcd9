/- If every sum that is due is the one before it plus a net amount that is not negative, Fold pays exactly what is due. No conditions. -/
import Derived.Test.YtpgghakjbghagaaHpx7
import Derived.Test.YtpgghakjbghagaaPReclaim
set_option linter.unusedVariables false
namespace Go.Proofs.Ytpgghakjbghagaa.Pure
open Go.RowKit Go.Proofs.Ytpgghakjbghagaa.Hp Go.Proofs.Ytpgghakjbghagaa.PEv Go.Proofs.Ytpgghakjbghagaa.PReclaim Go.Proofs.YtpgghakjbghagaaW.PrintWords Go.Proofs.YtpgghakjbghagaaW.PrintLast Go.Proofs.YtpgghakjbghagaaW.PrintMore

def sums : Int → List Int → List Int
  | _, [] => []
  | s, a :: l => (s + a) :: sums (s + a) l
theorem sums_length (l : List Int) : ∀ s, (sums s l).length = l.length := by
  induction l with
  | nil => intro s; rfl
  | cons a l ih => intro s; simp [sums, ih]
theorem fold_sums (l : List Int) : ∀ s : Int, 0 ≤ s → s + 1000000000 * (l.length : Int) ≤ 1000000000000 → (∀ x ∈ l, 0 ≤ x ∧ x ≤ 1000000000) → foldR (sums s l) l s = some (sums s l) := by
  induction l with
  | nil => intro s _ _ _; rfl
  | cons a l ih =>
    intro s h0 h1 ha
    have hb := ha a (by simp)
    simp only [List.length_cons] at h1
    have hp : pay (s + a) s a = a := by unfold pay; omega
    have hn : next (s + a) s a = (a, 0) := by
      unfold next
      rw [hp, inR_iff.mpr ⟨by omega, by omega⟩, inR_iff.mpr ⟨by omega, by omega⟩, inR_iff.mpr ⟨by omega, by omega⟩]
      rfl
    rw [sums, foldR, hn, if_pos ⟨rfl, inR_iff.mpr ⟨by omega, by omega⟩⟩, ih (s + a) (by omega) (by omega) (fun x hx => ha x (by simp [hx]))]
    rfl
theorem sums_snoc (l : List Int) (a : Int) : ∀ s : Int, sums s (l ++ [a]) = sums s l ++ [s + l.sum + a] := by
  induction l with
  | nil => intro s; simp [sums]
  | cons b l ih => intro s; simp [sums, ih]; omega
theorem sum_bound (l : List Int) (ha : ∀ x ∈ l, 0 ≤ x ∧ x ≤ 1000000000) : 0 ≤ l.sum ∧ l.sum ≤ 1000000000 * (l.length : Int) := by
  induction l with
  | nil => simp
  | cons a l ih =>
    have h := ih (fun x hx => ha x (by simp [hx]))
    have hb := ha a (by simp)
    simp only [List.sum_cons, List.length_cons]
    omega

theorem ReclaimAsDue : wageofficelaw41_ReclaimAsDue.Pure := by
  intro l hm hl hw
  obtain ⟨A, hA, hlen, hb⟩ := ev_amounts l hw (by omega)
  refine Ev.rounds ?_
  unfold wageofficelaw41_ReclaimAsDue.f
  refine Ev.bind ev_head (Ev.bind hA ?_)
  have hfold : Ev (fun k => reclaim_Fold.f k (sums 0 A) A) (sums 0 A, 0) := by
    have h := ev_fold (sums 0 A) A (sums_length A 0) (by rw [sums_length]; omega)
    rw [fold_sums A 0 (by omega) (by omega) hb] at h
    exact h
  have key : ∀ (d i : Nat), i + d = A.length → Ev (fun k => wageofficelaw41_ReclaimAsDue.l0 k true A (sums 0 (A.take i)) (A.take i).sum (i : Int)) true := by
    intro d
    induction d with
    | zero =>
      intro i hi
      refine Ev.step (fun k => wageofficelaw41_ReclaimAsDue.l0.eq_2 _ _ _ _ _ _) ?_
      refine Ev.neg (by omega) ?_
      rw [List.take_of_length_le (by omega)]
      refine Ev.bind hfold (Ev.pos rfl (Ev.pos rfl ?_))
      refine Ev.bind (ev_same _ _ (by rw [sums_length]; omega)) ?_
      rw [decide_eq_true rfl]
      exact Ev.now _
    | succ d ih =>
      intro i hi
      have h0 : i < A.length := by omega
      have hs := sum_bound (A.take i) (fun x hx => hb x (List.mem_of_mem_take hx))
      have ht : (A.take i).length = i := by rw [List.length_take]; omega
      have hx := hb A[i] (List.getElem_mem _)
      have hsucc : A.take (i + 1) = A.take i ++ [A[i]] := List.take_succ_eq_append_getElem h0
      refine Ev.step (fun k => wageofficelaw41_ReclaimAsDue.l0.eq_2 _ _ _ _ _ _) ?_
      refine Ev.pos (by omega) (Ev.pos (by omega) (Ev.pos (by rw [sums_length]; omega) ?_))
      rw [rd_eq A i h0, w64 (x := (A.take i).sum + A[i]) (by omega) (by omega), w64 (x := (i : Int) + 1) (by omega) (by omega)]
      have h := ih (i + 1) (by omega)
      rw [hsucc, sums_snoc, List.sum_append] at h
      simpa using h
  have := key A.length 0 (by omega)
  simpa [sums] using this

end Go.Proofs.Ytpgghakjbghagaa.Pure
