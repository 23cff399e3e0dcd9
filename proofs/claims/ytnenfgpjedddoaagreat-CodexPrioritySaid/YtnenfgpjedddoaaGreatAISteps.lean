/- What is kept at cuts, and what goes back to the caller. -/
import Derived.Test.YtnenfgpjedddoaaGreatAIReg2
set_option linter.unusedVariables false
set_option linter.unusedSectionVars false
set_option linter.unusedSimpArgs false
namespace Go.Proofs.YtnenfgpjedddoaaGreat.AI
open Go

variable {K : Type} [DecidableEq K] {T : K → Type} {E : Env T} {P : Program}

section
variable {g : Gh} {st : List (Ob T)} {w : World}
/-- A list gets an object of its own. -/
theorem new_vec (hi : Inv E g st w) {e : K} {xs : List (T e)} {ad : Option Addr} {n : Nat} (hf : Fc E g.G (.sl e xs .no) (.slice ad n n)) :
    ∃ g', To E g w g' (st ++ [.vec e 0]) w ∧ Rep E g' (.sl e xs (.tok st.length 0)) (.slice ad n n) := by
  obtain ⟨d1, d2, d3⟩ := hi.dead 1
  have hlen := hi.len
  have hob : (st ++ List.replicate 1 Ob.dead)[st.length]? = some .dead := by simp
  have hM : (g.M ++ List.replicate 1 Loc.none)[st.length]? = some .none := by rw [← hlen]; simp
  have hstep := d1.step (w' := w) (ob' := .vec e 0) (l' := .vec 0 ad n n false) (G' := g.G) hob hM trivial (.refl _) d1.froz rfl rfl rfl (Nat.le_refl _) (fun b _ _ => ⟨rfl, fun _ => rfl⟩) (fun b hb => by cases ad <;> cases hb)
    ⟨rfl, Nat.le_refl _, fun _ => rfl, fun h => by cases h⟩
  have hset : (st ++ List.replicate 1 Ob.dead).set st.length (.vec e 0) = st ++ [.vec e 0] := by
    rw [List.set_append_right _ _ (Nat.le_refl _)]
    simp
  rw [hset] at hstep
  refine ⟨_, (To.mk d3 d1 d2).trans ⟨hstep.2.2, hstep.1, hstep.2.1⟩, ?_⟩
  exact .sltok hf (ver' := 0) (a' := ad) (n' := n) (cap' := n) (m := false) (List.getElem?_set_self (List.getElem?_eq_some_iff.1 hM).1) (Nat.le_refl _) fun _ => ⟨rfl, rfl, rfl⟩

mutual
theorem grow_ok : ∀ (v : V T) {g : Gh} {st : List (Ob T)} {x : Value}, Inv E g st w → Rep E g v x → ∃ g', To E g w g' (grow st v).2 w ∧ Rep E g' (grow st v).1 x := fun v g st x hi hr => by
  cases v with
  | sl e xs o =>
    cases o with
    | nil =>
      obtain ⟨rfl, rfl⟩ := hr.nil_slice
      exact new_vec hi (.sl0 e)
    | full =>
      cases hr with
      | fc h => cases h
      | slfull h => exact new_vec hi h
    | no => exact ⟨g, .refl hi, hr⟩
    | tok i ver => exact ⟨g, .refl hi, hr⟩
  | agg cs =>
    obtain ⟨vs, h1, h2, rfl⟩ := hr.agg_inv
    obtain ⟨g', h3, h4⟩ := grows_ok cs hi h1
    simp only [grow]
    exact ⟨g', h3, .agg h4 h2⟩
  | _ => exact ⟨g, .refl hi, hr⟩
theorem grows_ok : ∀ (vs : List (V T)) {g : Gh} {st : List (Ob T)} {xs : List Value}, Inv E g st w → Reps E g vs xs → ∃ g', To E g w g' (grow.grows st vs).2 w ∧ Reps E g' (grow.grows st vs).1 xs
  | [], g, st, xs, hi, hr => by
    cases hr
    simp only [grow.grows]
    exact ⟨g, .refl hi, .nil⟩
  | v :: vs, g, st, xs, hi, hr => by
    cases hr with
    | cons h1 h2 =>
      obtain ⟨g1, k1, k2⟩ := grow_ok v hi h1
      obtain ⟨g2, k3, k4⟩ := grows_ok vs k1.inv (h2.mono k1.le)
      simp only [grow.grows]
      exact ⟨g2, k1.trans k3, .cons (k2.mono k3.le) k4⟩
end
theorem growSt_ok : ∀ (n i : Nat) {g : Gh} {st : List (Ob T)}, Inv E g st w → ∃ g', To E g w g' (growSt n i st) w
  | 0, i, g, st, hi => ⟨g, .refl hi⟩
  | n + 1, i, g, st, hi => by
    simp only [growSt]
    split
    · rename_i t cs hob
      have hlt : i < g.M.length := by rw [hi.len]; exact (List.getElem?_eq_some_iff.1 hob).1
      have hM : g.M[i]? = some g.M[i] := by simp [hlt]
      have hok := hi.obs i _ _ hob hM
      generalize g.M[i] = l at hM hok
      cases l <;> simp only [ObOk] at hok
      rename_i b
      obtain ⟨vs, h1, h2, h3, h4⟩ := hok
      obtain ⟨g1, k1, k2⟩ := grows_ok cs hi h2
      obtain ⟨l', hM', hl'⟩ := k1.le.M i _ hM
      cases l' <;> simp only [Loc.Le] at hl' <;> cases hl'
      generalize hgr : grow.grows st cs = r at k1 k2
      obtain ⟨cs', st'⟩ := r
      dsimp only at k1 k2 ⊢
      have hilt : i < st'.length := by rw [← k1.inv.len]; exact (List.getElem?_eq_some_iff.1 hM').1
      have hok1 := k1.inv.obs i st'[i] _ (by simp [hilt]) hM'
      have hg1 : ∀ off, g1.G b off = none := by
        cases hst : st'[i] <;> rw [hst] at hok1 <;> simp only [ObOk] at hok1
        obtain ⟨_, _, _, _, h⟩ := hok1
        exact h
      have hw := k1.inv.write (w' := w) (ob' := .box t cs') (by simp [hilt] : st'[i]? = some st'[i]) hM' ⟨vs, h1, k2, h3, hg1⟩ (fun _ _ => rfl) (fun b' off v hv hb => k1.inv.froz _ _ _ hv) rfl rfl rfl rfl
      obtain ⟨g2, k3⟩ := growSt_ok n (i + 1) hw.inv
      exact ⟨g2, (k1.trans hw).trans k3⟩
    · exact growSt_ok n (i + 1) hi

def KinTo (n : Nat) (g g' : Gh) : Prop := ∀ (i : Nat) (l : Loc), i < n → g.M[i]? = some l → ∃ l', g'.M[i]? = some l' ∧ l.Kin l'
theorem KinTo.refl (n : Nat) (g : Gh) : KinTo n g g := fun i l _ h => ⟨l, h, .refl _⟩
theorem KinTo.trans {n : Nat} {a b c : Gh} (h : KinTo n a b) (k : KinTo n b c) : KinTo n a c := fun i l hi hl =>
  let ⟨l', h1, h2⟩ := h i l hi hl
  let ⟨l'', h3, h4⟩ := k i l' hi h1
  ⟨l'', h3, h2.trans h4⟩
theorem Gh.Le.kin {a b : Gh} (h : a.Le b) (n : Nat) : KinTo n a b := fun i l _ hl =>
  let ⟨l', h1, h2⟩ := h.M i l hl
  ⟨l', h1, h2.kin⟩
theorem pack_kin {M' : List Loc} {ids : List Nat} {keep : Nat} {g' : Gh} (hP : Picked g.M ids g'.M) (hpre : ∃ l, ids = List.range keep ++ l) : KinTo keep g g' := fun i l hi hl => by
  obtain ⟨m, rfl⟩ := hpre
  obtain ⟨l0, h1, h2⟩ := hP.2 i i (by rw [List.getElem?_append_left (by simpa using hi)]; simp [hi])
  rw [hl] at h1
  cases h1
  exact ⟨_, h2, (Loc.Kin.refl l).at_right _⟩

/-- The slots that stay. -/
theorem lives_reps {fr : Fr T} {tmps : Array Value} (hf : FrOk E g fr tmps) : ∀ (ts : List Nat), Reps E g (seconds (lives fr ts)) ((lives fr ts).map fun p => tmps.getD p.1 undef) ∧ ∀ p ∈ lives fr ts, p.1 < tmps.size
  | [] => ⟨.nil, fun _ h => by cases h⟩
  | t :: ts => by
    obtain ⟨h1, h2⟩ := lives_reps hf ts
    simp only [lives]
    split
    · rename_i v hv
      obtain ⟨x, h3, h4⟩ := hf t v hv
      have hlt := (Array.getElem?_eq_some_iff.1 h3).1
      refine ⟨?_, fun p hp => ?_⟩
      · simp only [seconds, List.map_cons]
        refine .cons ?_ h1
        rw [Array.getD_eq_getD_getElem?, h3]
        exact h4
      · rcases List.mem_cons.1 hp with rfl | hp
        · exact hlt
        · exact h2 p hp
    · exact ⟨h1, h2⟩
theorem frOf_ok {tmps : Array Value} : ∀ {l : List (Nat × V T)} {vs : List (V T)}, Reps E g vs (l.map fun p => tmps.getD p.1 undef) → (∀ p ∈ l, p.1 < tmps.size) → FrOk E g (frOf l vs) tmps
  | [], vs, _, _ => by
    cases vs <;> exact fun t v h => by simp [frOf, Fr.get] at h
  | (t, u) :: l, [], h, _ => by cases h
  | (t, u) :: l, v :: vs, h, hs => by
    cases h with
    | cons h1 h2 =>
      intro t' v' h'
      simp only [frOf, Fr.get] at h'
      split at h'
      · rename_i hb
        have := Nat.eq_of_beq_eq_true hb
        subst this
        simp only [Option.some.injEq] at h'
        subst h'
        have hlt := hs (t, u) (List.mem_cons_self ..)
        refine ⟨tmps.getD t undef, ?_, h1⟩
        have hlt' : t < tmps.size := hlt
        simp [hlt']
      · exact frOf_ok h2 (fun p hp => hs p (List.mem_cons_of_mem _ hp)) t' v' h'
theorem prune_ok {fr : Fr T} {tmps : Array Value} (hf : FrOk E g fr tmps) : ∀ (ts : List Nat), FrOk E g (prune fr ts) tmps
  | [] => fun t v h => by simp [prune, Fr.get] at h
  | s :: ts => by
    simp only [prune]
    split
    · rename_i u hu
      intro t v h
      simp only [Fr.get] at h
      split at h
      · rename_i hb
        have := Nat.eq_of_beq_eq_true hb
        subst this
        simp only [Option.some.injEq] at h
        subst h
        exact hf _ _ hu
      · exact prune_ok hf ts t v h
    · exact prune_ok hf ts

/-- Objects and slots at a cut. -/
theorem pack_fr (hi : Inv E g st w) {fr : Fr T} {tmps : Array Value} (hf : FrOk E g fr tmps) {keep : Nat} {live : List Nat} {g1 : Gh} {st1 : List (Ob T)} {us vs : List (V T)} {ids : List Nat} {obs : List (Ob T)} (hto : To E g w g1 st1 w)
    (hus : Reps E g1 us ((lives fr live).map fun p => tmps.getD p.1 undef)) (hp : pack st1 keep us = some (ids, vs, obs)) :
    ∃ g', Inv E g' obs w ∧ Ext g g' w w ∧ KinTo keep g g' ∧ FrOk E g' (frOf (lives fr live) vs) tmps := by
  obtain ⟨g', _, h2, h3, h4, _, h5, _, _, h6, _⟩ := pack_ok hto.inv hp hus
  exact ⟨g', h3, hto.ext.trans h6, (hto.le.kin keep).trans (pack_kin (M' := g'.M) h2 h5), frOf_ok h4 (lives_reps hf live).2⟩

theorem comps_reps {v : V T} {x : Value} (hr : Rep E g v x) : ∃ xs, Reps E g v.comps xs ∧ ∀ {g' : Gh} {vs : List (V T)}, Reps E g' vs xs → Rep E g' (V.back v vs) x := by
  cases v with
  | tup us =>
    obtain ⟨xs, h1, rfl⟩ := hr.tup_inv
    exact ⟨xs, h1, fun h => .tup h⟩
  | _ =>
    refine ⟨[x], .cons hr .nil, fun h => ?_⟩
    cases h with
    | cons a b => cases b; exact a
theorem leave_ok (hE : EnvOk P E) {c : Cfg T} (hi : Inv E g c.st w) {v v' : V T} {x : Value} {st' : List (Ob T)} (hr : Rep E g v x) (h : leave E c v = some (v', st')) :
    ∃ g', Inv E g' st' w ∧ Ext g g' w w ∧ KinTo c.keep g g' ∧ Rep E g' v' x := by
  unfold leave at h
  obtain ⟨xs, hxs, hback⟩ := comps_reps hr
  split at h
  · cases h
  rename_i vs st1 hho
  obtain ⟨g1, h1, h2⟩ := handOver_ok hE hi hxs hho
  obtain ⟨g2, h3⟩ := growSt_ok (E := E) c.keep 0 h1.inv
  dsimp only at h
  have fin : ∀ {g3 : Gh} {vs3 : List (V T)} {st3 : List (Ob T)}, To E g w g3 st3 w → Reps E g3 vs3 xs → (match pack st3 c.keep vs3 with
      | some (_, vs, obs) => some (V.back v vs, obs)
      | none => none) = some (v', st') → ∃ g', Inv E g' st' w ∧ Ext g g' w w ∧ KinTo c.keep g g' ∧ Rep E g' v' x := fun {g3 vs3 st3} hto hus hp => by
    split at hp
    · rename_i ids vs4 obs hpk
      simp only [Option.some.injEq, Prod.mk.injEq] at hp
      obtain ⟨rfl, rfl⟩ := hp
      obtain ⟨g', _, k2, k3, k4, _, k5, _, _, k6, _⟩ := pack_ok hto.inv hpk hus
      exact ⟨g', k3, hto.ext.trans k6, (hto.le.kin _).trans (pack_kin (M' := g'.M) k2 k5), hback k4⟩
    · cases hp
  cases hres : E.ownRes c.fn with
  | true =>
    rw [hres] at h
    dsimp only at h
    obtain ⟨g3, k1, k2⟩ := grows_ok vs h3.inv (h2.mono h3.le)
    exact fin ((h1.trans h3).trans k1) k2 h
  | false =>
    rw [hres] at h
    dsimp only at h
    exact fin (h1.trans h3) (h2.mono h3.le) h
theorem resultV_ok (hE : EnvOk P E) (hi : Inv E g st w) {fr : Fr T} {tmps : Array Value} (hf : FrOk E g fr tmps) : ∀ (rs : List ResultVar) (vs : List (V T)), resultV E fr st rs = some vs →
    ∃ xs, (rs.mapM (fun r => match r with
      | .tmp t => pure (tmps.getD t undef)
      | .cell a t => do loadVar t (← asAddr (tmps.getD a undef)) : ResultVar → Sem Value)).run P w = .ok xs w ∧ Reps E g vs xs
  | [], vs, h => by
    simp only [resultV, Option.some.injEq] at h
    subst h
    exact ⟨[], rfl, .nil⟩
  | .tmp t :: rs, vs, h => by
    simp only [resultV] at h
    split at h
    · rename_i v vs' h1 h2
      simp only [Option.some.injEq] at h
      subst h
      obtain ⟨xs, h3, h4⟩ := resultV_ok hE hi hf rs vs' h2
      obtain ⟨x, h5, h6⟩ := hf t v h1
      refine ⟨x :: xs, ?_, .cons h6 h4⟩
      have : tmps.getD t undef = x := by rw [Array.getD_eq_getD_getElem?, h5]; rfl
      simp only [List.mapM_cons, Sem.run_bind, this, Sem.run_pure, Result.andThen_ok, h3]
    · cases h
  | .cell ad t :: rs, vs, h => by
    simp only [resultV] at h
    split at h
    · rename_i i off vs' h1 h2
      split at h
      · rename_i bt cs hob
        split at h
        · rename_i u hu
          simp only [Option.some.injEq] at h
          subst h
          obtain ⟨xs, h3, h4⟩ := resultV_ok hE hi hf rs vs' h2
          obtain ⟨x, h5, h6⟩ := hf ad _ h1
          obtain ⟨b, hM, rfl⟩ := h6.ptr_inv
          obtain ⟨ws, k1, k2, k3, k4⟩ := hi.obs i _ _ hob hM
          obtain ⟨y, k5, k6⟩ := loadVar_ok hE hu (k2.drop off) (k3.drop off) (at_cells_drop k1 off)
          refine ⟨y :: xs, ?_, .cons k6 h4⟩
          have : tmps.getD ad undef = .pointer (some ⟨b, off, none⟩) := by rw [Array.getD_eq_getD_getElem?, h5]; rfl
          have h0 : (asAddr (tmps.getD ad undef)).run P w = .ok ⟨b, off, none⟩ w := by rw [this]; rfl
          simp only [List.mapM_cons, Sem.run_bind, h0, Sem.run_pure, Result.andThen_ok, k5, h3]
        · cases h
      · cases h
    · cases h
end
end Go.Proofs.YtnenfgpjedddoaaGreat.AI
