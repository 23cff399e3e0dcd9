/- Every payment of Fold is at least the secure part and nothing negative, and what is paid in total exceeds what is due only by secure parts. No conditions. -/
import Derived.Test.YtpgghakjbghagaaHpx8
import Derived.Test.YtpgghakjbghagaaPReclaim
set_option linter.unusedVariables false
namespace Go.Proofs.Ytpgghakjbghagaa.Pure
open Go.RowKit Go.Proofs.Ytpgghakjbghagaa.Hp Go.Proofs.Ytpgghakjbghagaa.PEv Go.Proofs.Ytpgghakjbghagaa.PReclaim Go.Proofs.YtpgghakjbghagaaW.PrintWords Go.Proofs.YtpgghakjbghagaaW.PrintLast Go.Proofs.YtpgghakjbghagaaW.PrintMore

theorem next_in {d p n B : Int} (hd : -1000000000 ≤ d ∧ d ≤ 1000000000) (hn : -1000000000 ≤ n ∧ n ≤ 1000000000) (hp : 0 ≤ p ∧ p ≤ B) (hB : 1000000000 ≤ B ∧ B ≤ 900000000000) :
    next d p n = (pay d p n, 0) ∧ 0 ≤ pay d p n ∧ n - n / 4 ≤ pay d p n ∧ d ≤ p + pay d p n ∧ p + pay d p n ≤ B + 1000000000 ∧ (p + pay d p n = d ∨ pay d p n = max (n - n / 4) 0) := by
  have h : 0 ≤ pay d p n ∧ n - n / 4 ≤ pay d p n ∧ d ≤ p + pay d p n ∧ p + pay d p n ≤ B + 1000000000 ∧ (p + pay d p n = d ∨ pay d p n = max (n - n / 4) 0) := by unfold pay; omega
  refine ⟨?_, h⟩
  unfold next
  rw [inR_iff.mpr ⟨by omega, by omega⟩, inR_iff.mpr ⟨by omega, by omega⟩, inR_iff.mpr ⟨by omega, by omega⟩, inR_iff.mpr ⟨by omega, by omega⟩]
  rfl
theorem fold_some : ∀ (ds ns : List Int) (p B : Int), ds.length = ns.length → (∀ x ∈ ds, -1000000000 ≤ x ∧ x ≤ 1000000000) → (∀ x ∈ ns, -1000000000 ≤ x ∧ x ≤ 1000000000) → 0 ≤ p ∧ p ≤ B → 1000000000 ≤ B → B + 1000000000 * (ds.length : Int) ≤ 900000000000 →
    ∃ r, foldR ds ns p = some r ∧ r.length = ds.length := by
  intro ds
  induction ds with
  | nil =>
    intro ns p B hl _ _ _ _ _
    cases ns with
    | nil => exact ⟨[], rfl, rfl⟩
    | cons n ns => simp at hl
  | cons d ds ih =>
    intro ns p B hl hd hn hp hB hb
    cases ns with
    | nil => simp at hl
    | cons n ns =>
      simp only [List.length_cons] at hl hb
      obtain ⟨h1, h2, _, _, h5, _⟩ := next_in (hd d (by simp)) (hn n (by simp)) hp ⟨hB, by omega⟩
      obtain ⟨r, hr, hrl⟩ := ih ns (p + pay d p n) (B + 1000000000) (by omega) (fun x hx => hd x (by simp [hx])) (fun x hx => hn x (by simp [hx])) ⟨by omega, h5⟩ (by omega) (by omega)
      refine ⟨(p + pay d p n) :: r, ?_, by simp [hrl]⟩
      rw [foldR, h1, if_pos ⟨rfl, inR_iff.mpr ⟨by omega, by omega⟩⟩, hr]
      rfl
theorem tdiv4 (n : Int) : n.tdiv 4 = n / 4 ∨ (n.tdiv 4 = n / 4 + 1 ∧ n / 4 * 4 < n ∧ n < 0) := by
  by_cases h : 0 ≤ n
  · exact Or.inl (tdiv_pos h)
  · have := tdiv_neg (n := n) (m := 4) (by omega)
    omega

theorem ReclaimSecure : wageofficelaw41_ReclaimSecure.Pure := by
  intro l0 l1 hm0 hl0 hw0 hm1 hl1 hw1
  refine Ev.rounds ?_
  unfold wageofficelaw41_ReclaimSecure.f
  refine Ev.bind ev_head ?_
  obtain ⟨K, hK, hK40, hK0, hK1⟩ : ∃ K : Nat, mn (mn (l0.length : Int) (l1.length : Int)) 40 = (K : Int) ∧ K ≤ 40 ∧ K ≤ l0.length ∧ K ≤ l1.length :=
    ⟨min (min l0.length l1.length) 40, by rw [mn_eq, mn_eq]; omega, by omega, by omega, by omega⟩
  rw [hK]
  refine Ev.pos (by omega) (Ev.pos (by omega) ?_)
  -- the second loop
  have second : ∀ (D N R : List Int), D.length = K → N.length = K → R.length = K → (∀ x ∈ D, -1000000000 ≤ x ∧ x ≤ 1000000000) → (∀ x ∈ N, -1000000000 ≤ x ∧ x ≤ 1000000000) →
      ∀ (m i : Nat) (p : Int), i + m = K → 0 ≤ p ∧ p ≤ 1000000000 * ((i : Int) + 1) → foldR (D.drop i) (N.drop i) p = some (R.drop i) →
        Ev (fun k => wageofficelaw41_ReclaimSecure.l1 k true (K : Int) D N R p (i : Int)) true := by
    intro D N R hD hN hR bD bN m
    induction m with
    | zero =>
      intro i p hi hp hf
      refine Ev.step (fun k => wageofficelaw41_ReclaimSecure.l1.eq_2 _ _ _ _ _ _ _ _) ?_
      exact Ev.neg (by omega) (Ev.now _)
    | succ m ih =>
      intro i p hi hp hf
      have iD : i < D.length := by omega
      have iN : i < N.length := by omega
      have iR : i < R.length := by omega
      rw [List.drop_eq_getElem_cons iD, List.drop_eq_getElem_cons iN, List.drop_eq_getElem_cons iR] at hf
      have xD := bD D[i] (List.getElem_mem _)
      have xN := bN N[i] (List.getElem_mem _)
      obtain ⟨e1, e2, e3, e4, e5, e6⟩ := next_in xD xN hp ⟨by omega, by omega⟩
      rw [foldR, e1, if_pos ⟨rfl, inR_iff.mpr ⟨by omega, by omega⟩⟩, Option.map_eq_some_iff] at hf
      obtain ⟨r, hr, hc⟩ := hf
      injection hc with hc1 hc2
      subst hc2
      refine Ev.step (fun k => wageofficelaw41_ReclaimSecure.l1.eq_2 _ _ _ _ _ _ _ _) ?_
      refine Ev.pos (by omega) (Ev.pos (by omega) (Ev.pos (by omega) (Ev.pos (by omega) ?_)))
      rw [rd_eq N i iN, rd_eq R i iR]
      have third : Ev (fun k => wageofficelaw41_ReclaimSecure.j3 k true (K : Int) D N R p (i : Int) (wrap64 (R[i] - p)) (N[i] / 4)) true := by
        refine Ev.step (fun k => wageofficelaw41_ReclaimSecure.j3.eq_2 _ _ _ _ _ _ _ _ _ _) ?_
        refine Ev.pos (by omega) (Ev.pos (by omega) (Ev.pos (by omega) ?_))
        rw [rd_eq N i iN, rd_eq R i iR, rd_eq D i iD]
        have hn := ev_next D[i] p N[i]
        rw [e1] at hn
        refine Ev.bind hn (Ev.pos rfl (Ev.pos rfl ?_))
        rw [← hc1, mx_eq, w64 (x := p + pay D[i] p N[i] - p) (by omega) (by omega), w64 (x := N[i] - N[i] / 4) (by omega) (by omega), w64 (x := (i : Int) + 1) (by omega) (by omega)]
        refine Ev.pos (by show pay D[i] p N[i] = _; omega) (Ev.pos (by omega) (Ev.pos (by omega) (Ev.pos (by omega) ?_)))
        have go := ih (i + 1) (p + pay D[i] p N[i]) (by omega) ⟨by omega, by push_cast; omega⟩ hr
        by_cases heq : p + pay D[i] p N[i] = D[i]
        · exact Ev.pos heq go
        · refine Ev.neg heq ?_
          rw [show ((p + pay D[i] p N[i] - p == max (N[i] - N[i] / 4) 0) : Bool) = true from beq_iff_eq.mpr (by omega)]
          exact go
      have hq := tdiv4 N[i]
      by_cases hc : wrap64 (wrap64 (N[i].tdiv 4) * 4) > N[i]
      · refine Ev.pos hc ?_
        rw [w64 (x := N[i].tdiv 4) (by omega) (by omega), w64 (by omega) (by omega)] at hc
        rw [w64 (x := N[i].tdiv 4) (by omega) (by omega), w64 (x := N[i].tdiv 4 - 1) (by omega) (by omega), show N[i].tdiv 4 - 1 = N[i] / 4 by omega]
        exact third
      · refine Ev.neg hc ?_
        rw [w64 (x := N[i].tdiv 4) (by omega) (by omega), w64 (by omega) (by omega)] at hc
        rw [w64 (x := N[i].tdiv 4) (by omega) (by omega), show N[i].tdiv 4 = N[i] / 4 by omega]
        exact third
  -- the first loop
  have first : ∀ (m i : Nat) (D N : List Int), i + m = K → D.length = i → N.length = i → (∀ x ∈ D, -1000000000 ≤ x ∧ x ≤ 1000000000) → (∀ x ∈ N, -1000000000 ≤ x ∧ x ≤ 1000000000) →
      Ev (fun k => wageofficelaw41_ReclaimSecure.l0 k l0 l1 true (K : Int) D N (i : Int)) true := by
    intro m
    induction m with
    | zero =>
      intro i D N hi hD hN bD bN
      refine Ev.step (fun k => wageofficelaw41_ReclaimSecure.l0.eq_2 _ _ _ _ _ _ _ _) ?_
      refine Ev.neg (by omega) ?_
      obtain ⟨R, hR, hRl⟩ := fold_some D N 0 1000000000 (by omega) bD bN ⟨by omega, by omega⟩ (by omega) (by omega)
      have hf := ev_fold D N (by omega) (by omega)
      rw [hR] at hf
      refine Ev.bind hf (Ev.pos rfl ?_)
      refine Ev.step (fun k => wageofficelaw41_ReclaimSecure.j1.eq_2 _ _ _ _ _ _ _) ?_
      refine Ev.neg (by simp only [told, List.nil_append, bne_iff_ne, ne_eq, Decidable.not_not]; omega) ?_
      exact second D N R (by omega) (by omega) (by omega) bD bN K 0 0 (by omega) ⟨by omega, by omega⟩ hR
    | succ m ih =>
      intro i D N hi hD hN bD bN
      obtain ⟨v, hv, hv0, hv1⟩ := ev_pick (n := 2000000001) (wf_range (hw0 _ (rd_mem l0 (i : Int) (by omega) (by omega)))) (by decide)
      obtain ⟨u, hu, hu0, hu1⟩ := ev_pick (n := 2000000001) (wf_range (hw1 _ (rd_mem l1 (i : Int) (by omega) (by omega)))) (by decide)
      refine Ev.step (fun k => wageofficelaw41_ReclaimSecure.l0.eq_2 _ _ _ _ _ _ _ _) ?_
      refine Ev.pos (by omega) (Ev.pos (by omega) (Ev.pos (by omega) (Ev.bind0 hv (Ev.pos (by omega) (Ev.pos (by omega) (Ev.bind0 hu (Ev.pos (by omega) ?_)))))))
      rw [w64 (x := v - 1000000000) (by omega) (by omega), w64 (x := u - 1000000000) (by omega) (by omega), w64 (x := (i : Int) + 1) (by omega) (by omega)]
      refine ih (i + 1) _ _ (by omega) (by simp; omega) (by simp; omega) ?_ ?_
      · intro x hx
        rcases List.mem_append.mp hx with h | h
        · exact bD x h
        · rw [List.mem_singleton.mp h]; omega
      · intro x hx
        rcases List.mem_append.mp hx with h | h
        · exact bN x h
        · rw [List.mem_singleton.mp h]; omega
  exact first K 0 [] [] (by omega) rfl rfl (by simp) (by simp)

end Go.Proofs.Ytpgghakjbghagaa.Pure
