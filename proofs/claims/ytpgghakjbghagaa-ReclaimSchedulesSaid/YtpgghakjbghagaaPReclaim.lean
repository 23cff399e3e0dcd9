/- What Next, Fold and Schedule of package reclaim compute, in plain numbers and lists. Conditions: the amounts are 64-bit numbers. -/
import Derived.Test.YtpgghakjbghagaaHpx2
import Derived.Test.YtpgghakjbghagaaHpx3
import Derived.Test.YtpgghakjbghagaaHpx4
import Derived.Test.YtpgghakjbghagaaHpx5
import Derived.Test.YtpgghakjbghagaaPEv
set_option linter.unusedVariables false
namespace Go.Proofs.Ytpgghakjbghagaa.PReclaim
open Go.RowKit Go.Proofs.Ytpgghakjbghagaa.Hp Go.Proofs.Ytpgghakjbghagaa.PEv Go.Proofs.YtpgghakjbghagaaW.PrintWords Go.Proofs.YtpgghakjbghagaaW.PrintLast Go.Proofs.YtpgghakjbghagaaW.PrintMore

def inR (a : Int) : Bool := decide (-1000000000000 ≤ a) && decide (a ≤ 1000000000000)
theorem inR_iff {a : Int} : inR a = true ↔ -1000000000000 ≤ a ∧ a ≤ 1000000000000 := by simp [inR]
theorem inR_not {a : Int} : inR a = false ↔ a < -1000000000000 ∨ 1000000000000 < a := by
  rw [Bool.eq_false_iff, ne_eq, inR_iff]; omega

theorem ev_part {n : Int} (h : inR n = true) : Ev (fun k => reclaim_part.f k n) (n / 4) := by
  rw [inR_iff] at h
  have hw : wrap64 (n * 1) = n := by rw [Int.mul_one]; exact w64 (by omega) (by omega)
  have hq : ∃ q r, money_divide.f n 4 = some (q, r) ∧ q = n / 4 := by
    unfold money_divide.f
    rw [if_neg (by decide)]
    have hm := tmod_eq n 4
    by_cases h0 : 0 ≤ n
    · have ht := tdiv_pos (m := 4) h0
      rw [if_neg (by rw [hm, ht]; omega)]
      exact ⟨_, _, rfl, by rw [ht]; exact w64 (by omega) (by omega)⟩
    · have ht := tdiv_neg (n := n) (m := 4) (by omega)
      by_cases hr : n.tmod 4 < 0
      · rw [if_pos hr]
        rw [hm, ht] at hr
        refine ⟨_, _, rfl, ?_⟩
        rw [ht, w64 (x := -(-n / 4)) (by omega) (by omega), w64 (by omega) (by omega)]
        omega
      · rw [if_neg hr]
        rw [hm, ht] at hr
        refine ⟨_, _, rfl, ?_⟩
        rw [ht, w64 (by omega) (by omega)]
        omega
  obtain ⟨q, r, hd, hq⟩ := hq
  have hf : money_fits.f n = some true := by unfold money_fits.f; rw [if_pos (by omega), decide_eq_true (by omega)]
  have hfq : money_fits.f q = some true := by unfold money_fits.f; rw [if_pos (by omega), decide_eq_true (by omega)]
  have hs : Ev (fun k => money_Scale.f k n 1 4 0) (q, 0) := by
    unfold money_Scale.f
    refine Ev.bind0 hf ?_
    refine Ev.pos rfl (Ev.neg (by decide) (Ev.neg (by decide) (Ev.neg (by decide) ?_)))
    refine Ev.step (fun k => money_Scale.j0.eq_2 _ _ _ _ _ _) ?_
    refine Ev.neg (by decide) ?_
    rw [hw]
    refine Ev.bind0 hd ?_
    refine Ev.neg (by decide) ?_
    refine Ev.step (fun k => money_Scale.j1.eq_2 _ _ _ _ _ _ _ _) ?_
    refine Ev.neg (by decide) (Ev.pos rfl ?_)
    refine Ev.step (fun k => money_Scale.j3.eq_2 _ _) ?_
    refine Ev.bind0 hfq ?_
    exact Ev.pos rfl (Ev.now _)
  subst hq
  unfold reclaim_part.f
  exact Ev.bind hs (Ev.now _)

theorem ev_inRange (l : List Int) (hl : l.length ≤ 9223372036854775807) : Ev (fun k => reclaim_inRange.f k l) (l.all inR) := by
  have key : ∀ (d i : Nat), i + d = l.length → Ev (fun k => reclaim_inRange.l0 k l (l.length : Int) (i : Int)) ((l.drop i).all inR) := by
    intro d
    induction d with
    | zero =>
      intro i hi
      refine Ev.step (fun k => reclaim_inRange.l0.eq_2 _ _ _ _) ?_
      refine Ev.neg (by omega) ?_
      rw [List.drop_eq_nil_of_le (by omega)]
      exact Ev.now _
    | succ d ih =>
      intro i hi
      have hlt : i < l.length := by omega
      have hr := rd_eq l i hlt
      have hd : l.drop i = l[i] :: l.drop (i + 1) := List.drop_eq_getElem_cons hlt
      refine Ev.step (fun k => reclaim_inRange.l0.eq_2 _ _ _ _) ?_
      refine Ev.pos (by omega) (Ev.pos (by omega) (Ev.pos (by omega) ?_))
      rw [hr, hd, List.all_cons]
      by_cases c1 : l[i] < -1000000000000
      · refine Ev.pos c1 ?_
        refine Ev.step (fun k => reclaim_inRange.j1.eq_2 _ _ _ _ _) ?_
        rw [inR_not.mpr (Or.inl c1)]
        exact Ev.pos rfl (Ev.now _)
      · refine Ev.neg c1 ?_
        refine Ev.step (fun k => reclaim_inRange.j1.eq_2 _ _ _ _ _) ?_
        by_cases c2 : l[i] > 1000000000000
        · rw [inR_not.mpr (Or.inr c2)]
          exact Ev.pos (decide_eq_true c2) (Ev.now _)
        · rw [inR_iff.mpr ⟨by omega, by omega⟩, Bool.true_and]
          refine Ev.neg (by simp [c2]) ?_
          rw [w64 (by omega) (by omega)]
          exact ih (i + 1) (by omega)
  have := key l.length 0 (by omega)
  simpa [reclaim_inRange.f] using this

/-- The greatest of what is owed, the secure part, and nothing. -/
def pay (d p n : Int) : Int := max (max 0 (d - p)) (n - n / 4)
def next (d p n : Int) : Int × Int := if inR d && inR p && inR n && inR (pay d p n) then (pay d p n, 0) else (0, 3)

theorem ev_greatest (a : Int) (l : List Int) (hl : l.length ≤ 4611686018427387904) : Ev (fun k => reclaim_greatest_int.f k a l) (l.foldl max a) := by
  have key : ∀ (d i : Nat) (a : Int), i + d = l.length → Ev (fun k => reclaim_greatest_int.l0 k a l (l.length : Int) (i : Int)) ((l.drop i).foldl max a) := by
    intro d
    induction d with
    | zero =>
      intro i a hi
      refine Ev.step (fun k => reclaim_greatest_int.l0.eq_2 _ _ _ _ _) ?_
      refine Ev.neg (by omega) ?_
      rw [List.drop_eq_nil_of_le (by omega)]
      exact Ev.now _
    | succ d ih =>
      intro i a hi
      have hlt : i < l.length := by omega
      refine Ev.step (fun k => reclaim_greatest_int.l0.eq_2 _ _ _ _ _) ?_
      refine Ev.pos (by omega) (Ev.pos (by omega) (Ev.pos (by omega) ?_))
      rw [rd_eq l i hlt, mx_eq, w64 (by omega) (by omega), List.drop_eq_getElem_cons hlt, List.foldl_cons]
      exact ih (i + 1) _ (by omega)
  simpa [reclaim_greatest_int.f] using key l.length 0 a (by omega)

theorem ev_next (d p n : Int) : Ev (fun k => reclaim_Next.f k d p n) (next d p n) := by
  unfold reclaim_Next.f
  refine Ev.bind (ev_inRange [d, p, n] (by simp)) ?_
  by_cases h : inR d && inR p && inR n
  · have ha : [d, p, n].all inR = true := by
      rw [List.all_cons, List.all_cons, List.all_cons, List.all_nil, Bool.and_true, ← Bool.and_assoc]
      exact h
    rw [ha]
    refine Ev.pos rfl ?_
    simp only [Bool.and_eq_true] at h
    obtain ⟨⟨hd, hp⟩, hn⟩ := h
    refine Ev.bind (ev_part hn) ?_
    have hd' := inR_iff.mp hd
    have hp' := inR_iff.mp hp
    have hn' := inR_iff.mp hn
    rw [w64 (x := d - p) (by omega) (by omega), w64 (x := n - n / 4) (by omega) (by omega)]
    refine Ev.bind (ev_greatest 0 [d - p, n - n / 4] (by simp)) ?_
    rw [show [d - p, n - n / 4].foldl max 0 = max (max 0 (d - p)) (n - n / 4) from rfl]
    refine Ev.bind (ev_inRange _ (by simp)) ?_
    rw [show [max (max 0 (d - p)) (n - n / 4)].all inR = inR (pay d p n) from by rw [List.all_cons, List.all_nil, Bool.and_true]; rfl]
    unfold next
    rw [hd, hp, hn]
    cases hq : inR (pay d p n) with
    | true => exact Ev.pos rfl (Ev.now _)
    | false => exact Ev.neg (by decide) (Ev.now _)
  · have ha : [d, p, n].all inR = false := by
      rw [List.all_cons, List.all_cons, List.all_cons, List.all_nil, Bool.and_true, ← Bool.and_assoc]
      exact Bool.eq_false_iff.mpr h
    rw [ha]
    refine Ev.neg (by decide) ?_
    unfold next
    rw [if_neg (by intro hc; apply h; simp only [Bool.and_eq_true] at hc ⊢; exact hc.1)]
    exact Ev.now _
theorem ev_pick {c n : Int} (hc : -9223372036854775808 ≤ c ∧ c ≤ 9223372036854775807) (hn : 0 < n) : ∃ v, wageofficelaw41_pick.f c n = some v ∧ 0 ≤ v ∧ v < n := by
  unfold wageofficelaw41_pick.f
  by_cases h : c < 0
  · rw [if_pos h, if_neg (by omega), w64 (x := c + 1) (by omega) (by omega), w64 (x := -(c + 1)) (by omega) (by omega), tmod_pos (by omega)]
    exact ⟨_, rfl, Int.emod_nonneg _ (by omega), Int.emod_lt_of_pos _ hn⟩
  · rw [if_neg h, if_neg (by omega), tmod_pos (by omega)]
    exact ⟨_, rfl, Int.emod_nonneg _ (by omega), Int.emod_lt_of_pos _ hn⟩

/-- What Fold pays: by and by; none where it reports an error. -/
def foldR : List Int → List Int → Int → Option (List Int)
  | d :: ds, n :: ns, p => if (next d p n).2 = 0 ∧ inR (p + (next d p n).1) = true then (foldR ds ns (p + (next d p n).1)).map ((p + (next d p n).1) :: ·) else none
  | _, _, _ => some []
def told (o : Option (List Int)) (pre : List Int) : List Int × Int := match o with
  | some r => (pre ++ r, 0)
  | none => ([], 3)
theorem next_fst {d p n : Int} (h : (next d p n).2 = 0) : (next d p n).1 = pay d p n ∧ inR d = true ∧ inR p = true ∧ inR n = true ∧ inR (pay d p n) = true := by
  unfold next at *
  split at h
  · rename_i hc
    rw [if_pos hc]
    simp only [Bool.and_eq_true] at hc
    exact ⟨rfl, hc.1.1.1, hc.1.1.2, hc.1.2, hc.2⟩
  · simp at h
theorem ev_foldl (x0 x1 : List Int) (hl : x0.length = x1.length) (hs : x0.length ≤ 600) :
    ∀ (m i : Nat) (pre : List Int) (p : Int), i + m = x0.length → pre.length = i → inR p = true →
      Ev (fun k => reclaim_Fold.l0 k x0 x1 (pre ++ List.replicate m 0) p (i : Int)) (told (foldR (x0.drop i) (x1.drop i) p) pre) := by
  intro m
  induction m with
  | zero =>
    intro i pre p hi hpre hp
    refine Ev.step (fun k => reclaim_Fold.l0.eq_2 _ _ _ _ _ _) ?_
    refine Ev.neg (by omega) ?_
    rw [List.drop_eq_nil_of_le (show x0.length ≤ i by omega), List.drop_eq_nil_of_le (show x1.length ≤ i by omega)]
    exact Ev.now _
  | succ m ih =>
    intro i pre p hi hpre hp
    have h0 : i < x0.length := by omega
    have h1 : i < x1.length := by omega
    refine Ev.step (fun k => reclaim_Fold.l0.eq_2 _ _ _ _ _ _) ?_
    refine Ev.pos (by omega) (Ev.pos (by omega) (Ev.pos (by omega) (Ev.pos (by simp; omega) ?_)))
    rw [rd_eq x0 i h0, rd_eq x1 i h1, List.drop_eq_getElem_cons h0, List.drop_eq_getElem_cons h1]
    refine Ev.bind (ev_next _ _ _) ?_
    rw [foldR]
    by_cases hz : (next x0[i] p x1[i]).2 = 0
    · refine Ev.pos hz ?_
      obtain ⟨hf, _, _, _, hr⟩ := next_fst hz
      have hr' := inR_iff.mp hr
      have hp' := inR_iff.mp hp
      rw [hf, w64 (x := p + pay x0[i] p x1[i]) (by omega) (by omega)]
      refine Ev.bind (ev_inRange _ (by simp)) ?_
      cases hq : inR (p + pay x0[i] p x1[i]) with
      | true =>
        rw [show [p + pay x0[i] p x1[i]].all inR = true from by simp [hq], if_pos ⟨hz, rfl⟩]
        refine Ev.pos rfl ?_
        rw [w64 (x := (i : Int) + 1) (by omega) (by omega)]
        have hset : ∀ v : Int, (pre ++ List.replicate (m + 1) 0).set (i : Int).toNat v = (pre ++ [v]) ++ List.replicate m 0 := by
          intro v
          rw [Int.toNat_natCast, List.replicate_succ, List.set_append_right _ _ (by omega), hpre, Nat.sub_self]
          simp
        rw [hset]
        refine Ev.eq (ih (i + 1) (pre ++ [p + pay x0[i] p x1[i]]) _ (by omega) (by simp; omega) hq) ?_
        cases foldR (x0.drop (i + 1)) (x1.drop (i + 1)) (p + pay x0[i] p x1[i]) <;> simp [told]
      | false =>
        rw [show [p + pay x0[i] p x1[i]].all inR = false from by simp [hq], if_neg (by simp)]
        exact Ev.neg (by decide) (Ev.now _)
    · refine Ev.neg hz ?_
      rw [if_neg (fun h => hz h.1)]
      exact Ev.now _
theorem ev_fold (due nets : List Int) (hl : due.length = nets.length) (hs : due.length ≤ 600) : Ev (fun k => reclaim_Fold.f k due nets) (told (foldR due nets 0) []) := by
  unfold reclaim_Fold.f
  refine Ev.pos (by omega) (Ev.neg (by omega) ?_)
  have := ev_foldl due nets hl hs due.length 0 [] 0 (by omega) rfl (by decide)
  simpa using this
theorem ev_same (a b : List Int) (ha : a.length ≤ 4611686018427387904) : Ev (fun k => wageofficeref41_Same.f k a b) (decide (a = b)) := by
  unfold wageofficeref41_Same.f
  by_cases hl : a.length = b.length
  · refine Ev.pos (by omega) ?_
    have key : ∀ (d i : Nat), i + d = a.length → a.take i = b.take i → Ev (fun k => wageofficeref41_Same.l0 k a b (i : Int)) (decide (a = b)) := by
      intro d
      induction d with
      | zero =>
        intro i hi he
        refine Ev.step (fun k => wageofficeref41_Same.l0.eq_2 _ _ _ _) ?_
        refine Ev.neg (by omega) ?_
        rw [List.take_of_length_le (by omega), List.take_of_length_le (by omega)] at he
        rw [decide_eq_true he]
        exact Ev.now _
      | succ d ih =>
        intro i hi he
        have h0 : i < a.length := by omega
        have h1 : i < b.length := by omega
        refine Ev.step (fun k => wageofficeref41_Same.l0.eq_2 _ _ _ _) ?_
        refine Ev.pos (by omega) (Ev.pos (by omega) (Ev.pos (by omega) ?_))
        rw [rd_eq a i h0, rd_eq b i h1]
        by_cases hx : a[i] = b[i]
        · refine Ev.pos hx ?_
          rw [w64 (x := (i : Int) + 1) (by omega) (by omega)]
          exact ih (i + 1) (by omega) (by rw [List.take_succ_eq_append_getElem h0, List.take_succ_eq_append_getElem h1, he, hx])
        · refine Ev.neg hx ?_
          rw [decide_eq_false (by intro h; subst h; exact hx rfl)]
          exact Ev.now _
    simpa using key a.length 0 (by omega) (by simp)
  · refine Ev.neg (by omega) ?_
    rw [decide_eq_false (by intro h; subst h; exact hl rfl)]
    exact Ev.now _
theorem ev_amounts (l : List Int) (hw : ∀ x ∈ l, (Lit.int .i64 x).wf = true) (hl : l.length ≤ 4611686018427387904) :
    ∃ A : List Int, Ev (fun k => wageofficelaw41_amounts.f k l) A ∧ A.length ≤ 40 ∧ ∀ x ∈ A, 0 ≤ x ∧ x ≤ 1000000000 := by
  have key : ∀ (d i : Nat) (out : List Int), i + d = 40 → i ≤ l.length → out.length = i → (∀ x ∈ out, 0 ≤ x ∧ x ≤ 1000000000) →
      ∃ A : List Int, Ev (fun k => wageofficelaw41_amounts.l0 k l out (i : Int)) A ∧ A.length ≤ 40 ∧ ∀ x ∈ A, 0 ≤ x ∧ x ≤ 1000000000 := by
    intro d
    induction d with
    | zero =>
      intro i out hi hil hol ho
      refine ⟨out, ?_, by omega, ho⟩
      refine Ev.step (fun k => wageofficelaw41_amounts.l0.eq_2 _ _ _ _) ?_
      have he : Ev (fun k => wageofficelaw41_amounts.j1 k l out (i : Int) false) out := by
        refine Ev.step (fun k => wageofficelaw41_amounts.j1.eq_2 _ _ _ _ _) ?_
        exact Ev.neg (by decide) (Ev.now _)
      by_cases hlt : (i : Int) < (l.length : Int)
      · refine Ev.pos hlt ?_
        rw [decide_eq_false (by omega)]
        exact he
      · exact Ev.neg hlt he
    | succ d ih =>
      intro i out hi hil hol ho
      by_cases hlt : i < l.length
      · obtain ⟨v, hv, hv0, hv1⟩ := ev_pick (n := 1000000001) (wf_range (hw _ (rd_mem l (i : Int) (by omega) (by omega)))) (by decide)
        obtain ⟨A, hA, h1, h2⟩ := ih (i + 1) (out ++ [v]) (by omega) (by omega) (by simp; omega) (by
          intro x hx
          rcases List.mem_append.mp hx with h | h
          · exact ho x h
          · rw [List.mem_singleton.mp h]; omega)
        refine ⟨A, ?_, h1, h2⟩
        refine Ev.step (fun k => wageofficelaw41_amounts.l0.eq_2 _ _ _ _) ?_
        refine Ev.pos (by omega) ?_
        refine Ev.step (fun k => wageofficelaw41_amounts.j1.eq_2 _ _ _ _ _) ?_
        refine Ev.pos (decide_eq_true (by omega)) (Ev.pos (by omega) (Ev.pos (by omega) ?_))
        refine Ev.bind0 hv (Ev.pos (by omega) ?_)
        rw [w64 (x := (i : Int) + 1) (by omega) (by omega)]
        exact hA
      · refine ⟨out, ?_, by omega, ho⟩
        refine Ev.step (fun k => wageofficelaw41_amounts.l0.eq_2 _ _ _ _) ?_
        refine Ev.neg (by omega) ?_
        refine Ev.step (fun k => wageofficelaw41_amounts.j1.eq_2 _ _ _ _ _) ?_
        exact Ev.neg (by decide) (Ev.now _)
  exact key 40 0 [] (by omega) (by omega) rfl (by simp)
theorem ev_head : Ev (fun k => wageofficelaw41_head.f k) true := Ev.of wageofficelaw41_head.mono (k := 30) (by kernel_rfl)
end Go.Proofs.Ytpgghakjbghagaa.PReclaim
