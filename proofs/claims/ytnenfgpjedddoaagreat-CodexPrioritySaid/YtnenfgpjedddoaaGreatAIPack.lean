/- Objects are named anew: for a call, at a cut, at the end of a function. -/
import Derived.Test.YtnenfgpjedddoaaGreatAIOps12
set_option linter.unusedVariables false
set_option linter.unusedSectionVars false
set_option linter.unusedSimpArgs false
namespace Go.Proofs.YtnenfgpjedddoaaGreat.AI
open Go

variable {K : Type} [DecidableEq K] {T : K → Type} {E : Env T} {P : Program}

/-- The place with its count of changes named anew. -/
def Loc.at (h : Nat → Nat) : Loc → Loc
  | .vec ver a n cap m => .vec (h ver) a n cap m
  | l => l
/-- What became of an object over a call. -/
def Loc.Kin : Loc → Loc → Prop
  | .none, _ => True
  | .vec .., .vec .. => True
  | .map r bs, .map r' bs' => r = r' ∧ ∀ p ∈ bs, p ∈ bs'
  | .vec .., l' => False
  | .map .., l' => False
  | l, l' => l = l'
theorem Loc.Kin.refl (l : Loc) : l.Kin l := by cases l <;> simp [Loc.Kin]
theorem Loc.Kin.trans {a b c : Loc} (h : a.Kin b) (k : b.Kin c) : a.Kin c := by
  cases a <;> cases b <;> cases c <;> simp_all [Loc.Kin]
theorem Loc.Le.kin {a b : Loc} (h : a.Le b) : a.Kin b := by
  cases a <;> cases b <;> simp_all [Loc.Kin, Loc.Le]
theorem Loc.Kin.at_left {a b : Loc} (h : Nat → Nat) (k : (a.at h).Kin b) : a.Kin b := by
  cases a <;> cases b <;> simp_all [Loc.Kin, Loc.at]
theorem Loc.Kin.at_right {a b : Loc} (h : Nat → Nat) (k : a.Kin b) : a.Kin (b.at h) := by
  cases a <;> cases b <;> simp_all [Loc.Kin, Loc.at]
theorem Loc.at_block (h : Nat → Nat) (l : Loc) : (l.at h).block = l.block := by
  cases l with
  | vec ver a n cap m => cases a <;> cases m <;> rfl
  | _ => rfl

/-! ### Lists of places -/
theorem place_get : ∀ {ids : List Nat} {i k : Nat}, place ids i = some k → ids[k]? = some i
  | [], _, _, h => by simp [place] at h
  | j :: js, i, k, h => by
    unfold place at h
    split at h
    · rename_i hb
      have := Nat.eq_of_beq_eq_true hb
      simp only [Option.some.injEq] at h
      subst h; subst this
      rfl
    · split at h
      · rename_i k' hk
        simp only [Option.some.injEq] at h
        subst h
        simpa using place_get hk
      · cases h
theorem has_iff {t : Nat} : ∀ {l : List Nat}, has t l = true ↔ t ∈ l
  | [] => by simp [has]
  | s :: ss => by
    unfold has
    split
    · rename_i hb
      have := Nat.eq_of_beq_eq_true hb
      simp [this]
    · rename_i hb
      have hne : s ≠ t := fun e => by
        subst e
        have := Nat.beq_refl s
        rw [hb] at this; cases this
      rw [has_iff (l := ss)]
      simp [Ne.symm hne]
theorem addTo_nodup {acc : List Nat} (h : acc.Nodup) (i : Nat) : (addTo acc i).Nodup := by
  unfold addTo
  split
  · exact h
  · rename_i hb
    have : i ∉ acc := fun hm => by rw [has_iff.2 hm] at hb; cases hb
    rw [List.nodup_append]
    refine ⟨h, by simp, fun a ha b hb' => ?_⟩
    simp only [List.mem_singleton] at hb'
    subst hb'
    exact fun e => this (e ▸ ha)
theorem addTo_pre (acc : List Nat) (i : Nat) : ∃ l, addTo acc i = acc ++ l := by
  unfold addTo
  split
  · exact ⟨[], by simp⟩
  · exact ⟨[i], rfl⟩
mutual
theorem V.uses_nodup : ∀ (v : V T) {acc : List Nat}, acc.Nodup → (v.uses acc).Nodup := fun v acc h => by
  unfold V.uses
  split
  · exact addTo_nodup h _
  · exact V.usess_nodup _ h
  · exact addTo_nodup h _
  · exact addTo_nodup h _
  · exact addTo_nodup h _
  · exact addTo_nodup h _
  · exact addTo_nodup h _
  · exact V.usess_nodup _ (V.usess_nodup _ h)
  · exact V.uses_nodup _ h
  · exact V.usess_nodup _ h
  · exact V.uses_nodup _ (addTo_nodup h _)
  · exact h
theorem V.usess_nodup : ∀ (vs : List (V T)) {acc : List Nat}, acc.Nodup → (V.uses.usess acc vs).Nodup
  | [], _, h => h
  | v :: vs, _, h => V.usess_nodup vs (V.uses_nodup v h)
end
mutual
theorem V.uses_pre : ∀ (v : V T) (acc : List Nat), ∃ l, v.uses acc = acc ++ l := fun v acc => by
  unfold V.uses
  split
  · exact addTo_pre _ _
  · exact V.usess_pre _ _
  · exact addTo_pre _ _
  · exact addTo_pre _ _
  · exact addTo_pre _ _
  · exact addTo_pre _ _
  · exact addTo_pre _ _
  · rename_i a c
    obtain ⟨l, h⟩ := V.usess_pre a acc
    obtain ⟨m, k⟩ := V.usess_pre c (acc ++ l)
    exact ⟨l ++ m, by rw [h, k, List.append_assoc]⟩
  · exact V.uses_pre _ _
  · exact V.usess_pre _ _
  · rename_i i k
    obtain ⟨l, h⟩ := addTo_pre acc i
    obtain ⟨m, h'⟩ := V.uses_pre k (acc ++ l)
    exact ⟨l ++ m, by rw [h, h', List.append_assoc]⟩
  · exact ⟨[], by simp⟩
theorem V.usess_pre : ∀ (vs : List (V T)) (acc : List Nat), ∃ l, V.uses.usess acc vs = acc ++ l
  | [], acc => ⟨[], by simp [V.uses.usess]⟩
  | v :: vs, acc => by
    obtain ⟨l, h⟩ := V.uses_pre v acc
    obtain ⟨m, k⟩ := V.usess_pre vs (acc ++ l)
    exact ⟨l ++ m, by simp only [V.uses.usess]; rw [h, k, List.append_assoc]⟩
end
theorem Ob.uses_nodup {acc : List Nat} (o : Ob T) (h : acc.Nodup) : (o.uses acc).Nodup := by
  unfold Ob.uses
  split
  · exact V.usess_nodup _ h
  · exact h
theorem Ob.uses_pre (o : Ob T) (acc : List Nat) : ∃ l, o.uses acc = acc ++ l := by
  unfold Ob.uses
  split
  · exact V.usess_pre _ _
  · exact ⟨[], by simp⟩
theorem reach_nodup {st : List (Ob T)} : ∀ (n : Nat) (todo : List Nat) {acc : List Nat}, acc.Nodup → (reach st n todo acc).Nodup
  | 0, _, _, h => h
  | n + 1, [], _, h => h
  | n + 1, i :: todo, acc, h => by
    unfold reach
    dsimp only
    split
    · exact reach_nodup n _ (Ob.uses_nodup _ h)
    · exact reach_nodup n _ h
theorem reach_pre {st : List (Ob T)} : ∀ (n : Nat) (todo : List Nat) (acc : List Nat), ∃ l, reach st n todo acc = acc ++ l
  | 0, _, acc => ⟨[], by simp [reach]⟩
  | n + 1, [], acc => ⟨[], by simp [reach]⟩
  | n + 1, i :: todo, acc => by
    unfold reach
    dsimp only
    split
    · rename_i ob _
      obtain ⟨l, h⟩ := ob.uses_pre acc
      rw [h]
      obtain ⟨m, k⟩ := reach_pre (st := st) n (todo ++ (acc ++ l).drop acc.length) (acc ++ l)
      exact ⟨l ++ m, by rw [k, List.append_assoc]⟩
    · exact reach_pre n _ _

/-! ### The counts of changes begin at 0; names -/
section
variable {g : Gh} {st : List (Ob T)} {w : World}

/-- The places of the objects that stay. -/
def Picked (M : List Loc) (ids : List Nat) (M' : List Loc) : Prop := M'.length = ids.length ∧ ∀ (k i : Nat), ids[k]? = some i → ∃ l, M[i]? = some l ∧ M'[k]? = some (l.at fun _ => 0)

theorem Picked.at {M : List Loc} {ids : List Nat} {M' : List Loc} (h : Picked M ids M') {i k : Nat} {l : Loc} (hk : place ids i = some k) (hl : M[i]? = some l) : M'[k]? = some (l.at fun _ => 0) := by
  obtain ⟨l', h1, h2⟩ := h.2 k i (place_get hk)
  rw [hl] at h1
  cases h1
  exact h2
mutual
theorem rep_pack (hi : Inv E g st w) {ids : List Nat} {M' : List Loc} (hM : Picked g.M ids M') : ∀ {v : V T} {x : Value}, Rep E g v x → ∀ {v' : V T}, (vers0 st v).ren (place ids) noH = some v' → Rep E ⟨g.G, M'⟩ v' x
  | _, _, .fc h, v', hv => by
    cases h <;> simp only [vers0, V.ren, Own.ren, Option.some.injEq] at hv <;> subst hv
    · exact .fc (.int _ _)
    · exact .fc (.bool _)
    · exact .fc (.str _)
    · exact .fc (.sl0 _)
    · exact .fc (.sle _ _ _)
    · rename_i hc h hz
      exact .fc (.sl _ _ _ _ _ _ hc h hz)
  | _, _, .slnil e, v', hv => by
    simp only [vers0, V.ren, Own.ren, Option.some.injEq] at hv; subst hv; exact .slnil e
  | _, _, .slfull h, v', hv => by
    simp only [vers0, V.ren, Own.ren, Option.some.injEq] at hv; subst hv; exact .slfull h
  | _, _, .sltok (i := i) (ver := ver) (ver' := ver') h hm hle he, v', hv => by
    simp only [vers0] at hv
    split at hv
    · rename_i e0 ver0 hst
      have hok := hi.obs i _ _ hst hm
      have hv0 : ver0 = ver' := hok.1
      split at hv
      · rename_i hb
        have hvv := Nat.eq_of_beq_eq_true hb
        simp only [V.ren, Own.ren, Option.some.injEq] at hv
        subst hv
        cases hp : place ids i with
        | none => exact .fc h
        | some k =>
          have hk := hM.at hp hm
          exact .sltok h hk (Nat.le_refl _) fun _ => he (by omega)
      · simp only [V.ren, Own.ren, Option.some.injEq] at hv
        subst hv
        exact .fc h
    · simp only [V.ren, Own.ren, Option.some.injEq] at hv
      subst hv
      exact .fc h
  | _, _, .nsl, v', hv => by
    simp only [vers0, V.ren, Option.some.injEq] at hv; subst hv; exact .nsl
  | _, _, .agg h h1, v', hv => by
    simp only [vers0, V.ren] at hv
    split at hv
    · rename_i cs hcs
      simp only [Option.some.injEq] at hv
      subst hv
      exact .agg (reps_pack hi hM h hcs) h1
    · cases hv
  | _, _, .ptr hm, v', hv => by
    simp only [vers0, V.ren] at hv
    split at hv
    · rename_i k hk
      simp only [Option.some.injEq] at hv
      subst hv
      exact .ptr (hM.at hk hm)
    · cases hv
  | _, _, .npt, v', hv => by
    simp only [vers0, V.ren, Option.some.injEq] at hv; subst hv; exact .npt
  | _, _, .adr h hz, v', hv => by
    simp only [vers0, V.ren, Option.some.injEq] at hv; subst hv; exact .adr h hz
  | _, _, .asl hm, v', hv => by
    simp only [vers0, V.ren] at hv
    split at hv
    · rename_i k hk
      simp only [Option.some.injEq] at hv
      subst hv
      exact .asl (hM.at hk hm)
    · cases hv
  | _, _, .elt hm hj, v', hv => by
    simp only [vers0, V.ren] at hv
    split at hv
    · rename_i k hk
      simp only [Option.some.injEq] at hv
      subst hv
      exact .elt (hM.at hk hm) hj
    · cases hv
  | _, _, .map hm, v', hv => by
    simp only [vers0, V.ren] at hv
    split at hv
    · rename_i k hk
      simp only [Option.some.injEq] at hv
      subst hv
      exact .map (hM.at hk hm)
    · cases hv
  | _, _, .nmp, v', hv => by
    simp only [vers0, V.ren, Option.some.injEq] at hv; subst hv; exact .nmp
  | _, _, .fn ha hc, v', hv => by
    simp only [vers0, V.ren] at hv
    split at hv
    · rename_i a c h1 h2
      simp only [Option.some.injEq] at hv
      subst hv
      exact .fn (reps_pack hi hM ha h1) (reps_pack hi hM hc h2)
    · cases hv
  | _, _, .nfn, v', hv => by
    simp only [vers0, V.ren, Option.some.injEq] at hv; subst hv; exact .nfn
  | _, _, .ifc h, v', hv => by
    simp only [vers0, V.ren] at hv
    split at hv
    · rename_i k hk
      simp only [Option.some.injEq] at hv
      subst hv
      exact .ifc (rep_pack hi hM h hk)
    · cases hv
  | _, _, .nif, v', hv => by
    simp only [vers0, V.ren, Option.some.injEq] at hv; subst hv; exact .nif
  | _, _, .tup h, v', hv => by
    simp only [vers0, V.ren] at hv
    split at hv
    · rename_i k hk
      simp only [Option.some.injEq] at hv
      subst hv
      exact .tup (reps_pack hi hM h hk)
    · cases hv
  | _, _, .stamp hm hk hb, v', hv => by
    simp only [vers0, V.ren] at hv
    split at hv
    · rename_i i k h1 h2
      simp only [Option.some.injEq] at hv
      subst hv
      exact .stamp (hM.at h1 hm) (rep_pack hi hM hk h2) hb
    · cases hv
  | _, _, .itr hm, v', hv => by
    simp only [vers0, V.ren] at hv
    split at hv
    · rename_i k hk
      simp only [Option.some.injEq] at hv
      subst hv
      exact .itr (hM.at hk hm)
    · cases hv
  | _, _, .und, v', hv => by
    simp only [vers0, V.ren, Option.some.injEq] at hv; subst hv; exact .und
theorem reps_pack (hi : Inv E g st w) {ids : List Nat} {M' : List Loc} (hM : Picked g.M ids M') : ∀ {vs : List (V T)} {xs : List Value}, Reps E g vs xs → ∀ {vs' : List (V T)}, V.ren.rens (place ids) noH (vers0.vers0s st vs) = some vs' → Reps E ⟨g.G, M'⟩ vs' xs
  | _, _, .nil, vs', hv => by
    simp only [vers0.vers0s, V.ren.rens, Option.some.injEq] at hv; subst hv; exact .nil
  | _, _, .cons h hs, vs', hv => by
    simp only [vers0.vers0s, V.ren.rens] at hv
    split at hv
    · rename_i h1 h2
      simp only [Option.some.injEq] at hv
      subst hv
      exact .cons (rep_pack hi hM h h1) (reps_pack hi hM hs h2)
    · cases hv
end

theorem obs0_get : ∀ {l : List (Ob T)} {i : Nat}, (obs0 st l)[i]? = (l[i]?).map (Ob.vers0 st)
  | [], i => by simp [obs0]
  | o :: l, 0 => by simp [obs0]
  | o :: l, i + 1 => by simpa [obs0] using obs0_get (l := l) (i := i)
theorem obsAt_get {f : Nat → Option Nat} {h : Nat → Nat} {st' : List (Ob T)} : ∀ {ids : List Nat} {obs : List (Ob T)}, obsAt st' f h ids = some obs → obs.length = ids.length ∧ ∀ (k i : Nat), ids[k]? = some i → ∃ o o', st'[i]? = some o ∧ o.ren f h i = some o' ∧ obs[k]? = some o'
  | [], obs, hh => by
    simp only [obsAt, Option.some.injEq] at hh
    subst hh
    exact ⟨rfl, fun k i hk => by simp at hk⟩
  | i :: is, obs, hh => by
    simp only [obsAt] at hh
    split at hh
    · rename_i o os h1 h2
      split at hh
      · rename_i o' h3
        simp only [Option.some.injEq] at hh
        subst hh
        obtain ⟨h4, h5⟩ := obsAt_get h2
        refine ⟨by simp [h4], fun k j hk => ?_⟩
        cases k with
        | zero =>
          simp only [List.getElem?_cons_zero, Option.some.injEq] at hk
          subst hk
          exact ⟨o, o', h1, h3, rfl⟩
        | succ k => simpa using h5 k j (by simpa using hk)
      · cases hh
    · cases hh
/-- One object, its names and counts new. -/
theorem ob_pack (hi : Inv E g st w) {ids : List Nat} {M' : List Loc} (hM : Picked g.M ids M') {i : Nat} {o o' : Ob T} {l : Loc} (ho : st[i]? = some o) (hl : g.M[i]? = some l) (h : (o.vers0 st).ren (place ids) noH i = some o') :
    ObOk E ⟨g.G, M'⟩ w o' (l.at fun _ => 0) := by
  have hok := hi.obs i o l ho hl
  cases o <;> simp only [Ob.vers0, Ob.ren, Option.some.injEq] at h <;> cases l <;> simp only [ObOk] at hok
  case box.box t cs b =>
    split at h
    · rename_i cs' hcs
      simp only [Option.some.injEq] at h
      subst h
      obtain ⟨vs, h1, h2, h3, h4⟩ := hok
      exact ⟨vs, h1, reps_pack hi hM h2 hcs, h3, h4⟩
    · cases h
  case arr.arr => subst h; exact hok
  case fro.arr => subst h; exact hok
  case vec.vec =>
    subst h
    exact ⟨rfl, hok.2.1, hok.2.2.1, hok.2.2.2⟩
  case map.map =>
    subst h
    obtain ⟨es, clock, h1, h2, h3⟩ := hok
    exact ⟨es, clock, h1, ents_le (g := g) (g' := ⟨g.G, M'⟩) rfl h2, h3⟩
  case iter.iter => subst h; exact hok
  case dead.none => cases h

def pickM (M : List Loc) (ids : List Nat) : List Loc := ids.map fun i => (M.getD i .none).at fun _ => 0
/-- Values and what they lead to, under new names. -/
theorem pack_ok (hi : Inv E g st w) {keep : Nat} {vs vs' : List (V T)} {xs : List Value} {ids : List Nat} {obs : List (Ob T)} (h : pack st keep vs = some (ids, vs', obs)) (hr : Reps E g vs xs) :
    ∃ g', g'.G = g.G ∧ Picked g.M ids g'.M ∧ Inv E g' obs w ∧ Reps E g' vs' xs ∧ ids.Nodup ∧ (∃ l, ids = List.range keep ++ l) ∧ obs.length = ids.length ∧ (∀ i ∈ ids, ∃ o, st[i]? = some o ∧ o ≠ .dead) ∧ Ext g g' w w ∧ (∀ b, g'.owns b → ∃ i l, i ∈ ids ∧ g.M[i]? = some l ∧ l.block = some b) := by
  unfold pack at h
  dsimp only at h
  split at h
  case h_2 => cases h
  rename_i vs2 obs2 h1 h2
  simp only [Option.some.injEq, Prod.mk.injEq] at h
  obtain ⟨rfl, rfl, rfl⟩ := h
  generalize hids : closure st (V.uses.usess (List.range keep) vs) = ids at h1 h2 ⊢
  have hnd : ids.Nodup := by
    rw [← hids]
    exact reach_nodup _ _ (V.usess_nodup _ List.nodup_range)
  have hpre : ∃ l, ids = List.range keep ++ l := by
    obtain ⟨l, h3⟩ := V.usess_pre vs (List.range keep)
    obtain ⟨m, h4⟩ := reach_pre (st := st) 4096 (List.range keep ++ l) (List.range keep ++ l)
    refine ⟨l ++ m, ?_⟩
    rw [← hids]
    unfold closure
    rw [h3, h4, List.append_assoc]
  obtain ⟨hlen, hget⟩ := obsAt_get h2
  have hin : ∀ (k i : Nat), ids[k]? = some i → ∃ o l, st[i]? = some o ∧ g.M[i]? = some l := fun k i hk => by
    obtain ⟨o, o', h3, h4, h5⟩ := hget k i hk
    rw [obs0_get] at h3
    cases hst : st[i]? with
    | none => simp [hst] at h3
    | some o0 =>
      have hlt : i < g.M.length := by rw [hi.len]; exact (List.getElem?_eq_some_iff.1 hst).1
      exact ⟨o0, g.M[i], rfl, by simp [hlt]⟩
  have hP : Picked g.M ids (pickM g.M ids) := by
    refine ⟨by simp [pickM], fun k i hk => ?_⟩
    obtain ⟨o, l, _, hl⟩ := hin k i hk
    exact ⟨l, hl, by simp [pickM, hk, hl]⟩
  have hback : ∀ (k : Nat) (l : Loc), (pickM g.M ids)[k]? = some l → ∃ i l0, ids[k]? = some i ∧ g.M[i]? = some l0 ∧ l = l0.at fun _ => 0 := fun k l hk => by
    have hlt : k < ids.length := by
      have := (List.getElem?_eq_some_iff.1 hk).1
      simpa [pickM] using this
    obtain ⟨l0, h3, h4⟩ := hP.2 k ids[k] (by simp [hlt])
    rw [hk] at h4
    cases h4
    exact ⟨ids[k], l0, by simp [hlt], h3, rfl⟩
  have hown : ∀ b, (⟨g.G, pickM g.M ids⟩ : Gh).owns b → ∃ i l, i ∈ ids ∧ g.M[i]? = some l ∧ l.block = some b := fun b ⟨k, l, hk, hb⟩ => by
    obtain ⟨i, l0, h3, h4, rfl⟩ := hback k l hk
    rw [Loc.at_block] at hb
    exact ⟨i, l0, List.mem_of_getElem? h3, h4, hb⟩
  refine ⟨⟨g.G, pickM g.M ids⟩, rfl, hP, ⟨hi.froz, by rw [hlen]; simp [pickM], ?_, ?_, hi.glob, hi.ints⟩, reps_pack hi hP hr h1, hnd, hpre, hlen, ?_, ?_, hown⟩
  · intro k o' l' ho hl
    obtain ⟨i, l0, h3, h4, rfl⟩ := hback k l' hl
    obtain ⟨o1, o2, h5, h6, h7⟩ := hget k i h3
    rw [ho] at h7
    cases h7
    rw [obs0_get] at h5
    cases hst : st[i]? with
    | none => simp [hst] at h5
    | some o0 =>
      simp only [hst, Option.map_some, Option.some.injEq] at h5
      subst h5
      exact ob_pack hi hP hst h4 h6
  · intro k k' l l' b hk hk' hb hb'
    obtain ⟨i, l0, h3, h4, rfl⟩ := hback k l hk
    obtain ⟨i', l0', h3', h4', rfl⟩ := hback k' l' hk'
    rw [Loc.at_block] at hb hb'
    have := hi.apart i i' l0 l0' b h4 h4' hb hb'
    subst this
    exact (List.getElem?_inj (List.getElem?_eq_some_iff.1 h3).1 hnd).1 (h3.trans h3'.symm)
  · intro i hm
    obtain ⟨k, hlt, hk⟩ := List.getElem_of_mem hm
    obtain ⟨o, o', h3, h4, h5⟩ := hget k i (by simp [hlt, hk])
    rw [obs0_get] at h3
    cases hst : st[i]? with
    | none => simp [hst] at h3
    | some o0 =>
      refine ⟨o0, rfl, fun he => ?_⟩
      subst he
      simp only [hst, Option.map_some, Option.some.injEq] at h3
      subst h3
      cases h4
  · exact ⟨.refl _, rfl, rfl, rfl, Nat.le_refl _, fun _ _ _ => ⟨rfl, fun _ => rfl⟩, fun b hb => by
      obtain ⟨i, l, _, h3, h4⟩ := hown b hb
      exact .inl ⟨i, l, h3, h4⟩⟩
end
end Go.Proofs.YtnenfgpjedddoaaGreat.AI
