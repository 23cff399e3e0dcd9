/- Objects are named anew: for a call, at a cut, at the end of a function. -/
import Derived.Test.YtnenfgpjedddoaaGreatAIOps
set_option linter.unusedVariables false
set_option linter.unusedSectionVars false
set_option linter.unusedSimpArgs false
namespace Go.Proofs.YtnenfgpjedddoaaGreat.AI
open Go

variable {K : Type} [DecidableEq K] {T : K → Type} {E : Env T} {P : Program}

/-- The place with its count of changes named anew. -/
def Loc.at (h : Nat → Nat) : Loc → Loc
  | .vec ver a n cap m => .vec (h ver) a n cap m
  | l => l
/-- What became of an object over a call. -/
def Loc.Kin : Loc → Loc → Prop
  | .none, _ => True
  | .vec .., .vec .. => True
  | .map r bs, .map r' bs' => r = r' ∧ ∀ p ∈ bs, p ∈ bs'
  | .vec .., l' => False
  | .map .., l' => False
  | l, l' => l = l'
theorem Loc.Kin.refl (l : Loc) : l.Kin l := by cases l <;> simp [Loc.Kin]
theorem Loc.Kin.trans {a b c : Loc} (h : a.Kin b) (k : b.Kin c) : a.Kin c := by
  cases a <;> cases b <;> cases c <;> simp_all [Loc.Kin]
theorem Loc.Le.kin {a b : Loc} (h : a.Le b) : a.Kin b := by
  cases a <;> cases b <;> simp_all [Loc.Kin, Loc.Le]
theorem Loc.Kin.at_left {a b : Loc} (h : Nat → Nat) (k : (a.at h).Kin b) : a.Kin b := by
  cases a <;> cases b <;> simp_all [Loc.Kin, Loc.at]
theorem Loc.Kin.at_right {a b : Loc} (h : Nat → Nat) (k : a.Kin b) : a.Kin (b.at h) := by
  cases a <;> cases b <;> simp_all [Loc.Kin, Loc.at]
theorem Loc.at_block (h : Nat → Nat) (l : Loc) : (l.at h).block = l.block := by
  cases l with
  | vec ver a n cap m => cases a <;> cases m <;> rfl
  | _ => rfl

/-! ### Lists of places -/
theorem place_get : ∀ {ids : List Nat} {i k : Nat}, place ids i = some k → ids[k]? = some i
  | [], _, _, h => by simp [place] at h
  | j :: js, i, k, h => by
    unfold place at h
    split at h
    · rename_i hb
      have := Nat.eq_of_beq_eq_true hb
      simp only [Option.some.injEq] at h
      subst h; subst this
      rfl
    · split at h
      · rename_i k' hk
        simp only [Option.some.injEq] at h
        subst h
        simpa using place_get hk
      · cases h
theorem has_iff {t : Nat} : ∀ {l : List Nat}, has t l = true ↔ t ∈ l
  | [] => by simp [has]
  | s :: ss => by
    unfold has
    split
    · rename_i hb
      have := Nat.eq_of_beq_eq_true hb
      simp [this]
    · rename_i hb
      have hne : s ≠ t := fun e => by
        subst e
        have := Nat.beq_refl s
        rw [hb] at this; cases this
      rw [has_iff (l := ss)]
      simp [Ne.symm hne]
theorem addTo_nodup {acc : List Nat} (h : acc.Nodup) (i : Nat) : (addTo acc i).Nodup := by
  unfold addTo
  split
  · exact h
  · rename_i hb
    have : i ∉ acc := fun hm => by rw [has_iff.2 hm] at hb; cases hb
    rw [List.nodup_append]
    refine ⟨h, by simp, fun a ha b hb' => ?_⟩
    simp only [List.mem_singleton] at hb'
    subst hb'
    exact fun e => this (e ▸ ha)
theorem addTo_pre (acc : List Nat) (i : Nat) : ∃ l, addTo acc i = acc ++ l := by
  unfold addTo
  split
  · exact ⟨[], by simp⟩
  · exact ⟨[i], rfl⟩
mutual
theorem V.uses_nodup : ∀ (v : V T) {acc : List Nat}, acc.Nodup → (v.uses acc).Nodup := fun v acc h => by
  unfold V.uses
  split
  · exact addTo_nodup h _
  · exact V.usess_nodup _ h
  · exact addTo_nodup h _
  · exact addTo_nodup h _
  · exact addTo_nodup h _
  · exact addTo_nodup h _
  · exact addTo_nodup h _
  · exact V.usess_nodup _ (V.usess_nodup _ h)
  · exact V.uses_nodup _ h
  · exact V.usess_nodup _ h
  · exact V.uses_nodup _ (addTo_nodup h _)
  · exact h
theorem V.usess_nodup : ∀ (vs : List (V T)) {acc : List Nat}, acc.Nodup → (V.uses.usess acc vs).Nodup
  | [], _, h => h
  | v :: vs, _, h => V.usess_nodup vs (V.uses_nodup v h)
end
mutual
theorem V.uses_pre : ∀ (v : V T) (acc : List Nat), ∃ l, v.uses acc = acc ++ l := fun v acc => by
  unfold V.uses
  split
  · exact addTo_pre _ _
  · exact V.usess_pre _ _
  · exact addTo_pre _ _
  · exact addTo_pre _ _
  · exact addTo_pre _ _
  · exact addTo_pre _ _
  · exact addTo_pre _ _
  · rename_i a c
    obtain ⟨l, h⟩ := V.usess_pre a acc
    obtain ⟨m, k⟩ := V.usess_pre c (acc ++ l)
    exact ⟨l ++ m, by rw [h, k, List.append_assoc]⟩
  · exact V.uses_pre _ _
  · exact V.usess_pre _ _
  · rename_i i k
    obtain ⟨l, h⟩ := addTo_pre acc i
    obtain ⟨m, h'⟩ := V.uses_pre k (acc ++ l)
    exact ⟨l ++ m, by rw [h, h', List.append_assoc]⟩
  · exact ⟨[], by simp⟩
theorem V.usess_pre : ∀ (vs : List (V T)) (acc : List Nat), ∃ l, V.uses.usess acc vs = acc ++ l
  | [], acc => ⟨[], by simp [V.uses.usess]⟩
  | v :: vs, acc => by
    obtain ⟨l, h⟩ := V.uses_pre v acc
    obtain ⟨m, k⟩ := V.usess_pre vs (acc ++ l)
    exact ⟨l ++ m, by simp only [V.uses.usess]; rw [h, k, List.append_assoc]⟩
end
theorem Ob.uses_nodup {acc : List Nat} (o : Ob T) (h : acc.Nodup) : (o.uses acc).Nodup := by
  unfold Ob.uses
  split
  · exact V.usess_nodup _ h
  · exact h
theorem Ob.uses_pre (o : Ob T) (acc : List Nat) : ∃ l, o.uses acc = acc ++ l := by
  unfold Ob.uses
  split
  · exact V.usess_pre _ _
  · exact ⟨[], by simp⟩
theorem reach_nodup {st : List (Ob T)} : ∀ (n : Nat) (todo : List Nat) {acc : List Nat}, acc.Nodup → (reach st n todo acc).Nodup
  | 0, _, _, h => h
  | n + 1, [], _, h => h
  | n + 1, i :: todo, acc, h => by
    unfold reach
    dsimp only
    split
    · exact reach_nodup n _ (Ob.uses_nodup _ h)
    · exact reach_nodup n _ h
theorem reach_pre {st : List (Ob T)} : ∀ (n : Nat) (todo : List Nat) (acc : List Nat), ∃ l, reach st n todo acc = acc ++ l
  | 0, _, acc => ⟨[], by simp [reach]⟩
  | n + 1, [], acc => ⟨[], by simp [reach]⟩
  | n + 1, i :: todo, acc => by
    unfold reach
    dsimp only
    split
    · rename_i ob _
      obtain ⟨l, h⟩ := ob.uses_pre acc
      rw [h]
      obtain ⟨m, k⟩ := reach_pre (st := st) n (todo ++ (acc ++ l).drop acc.length) (acc ++ l)
      exact ⟨l ++ m, by rw [k, List.append_assoc]⟩
    · exact reach_pre n _ _

/-! ### The counts of changes begin at 0; names -/
section
variable {g : Gh} {st : List (Ob T)} {w : World}

/-- The places of the objects that stay. -/
def Picked (M : List Loc) (ids : List Nat) (M' : List Loc) : Prop := M'.length = ids.length ∧ ∀ (k i : Nat), ids[k]? = some i → ∃ l, M[i]? = some l ∧ M'[k]? = some (l.at fun _ => 0)

theorem Picked.at {M : List Loc} {ids : List Nat} {M' : List Loc} (h : Picked M ids M') {i k : Nat} {l : Loc} (hk : place ids i = some k) (hl : M[i]? = some l) : M'[k]? = some (l.at fun _ => 0) := by
  obtain ⟨l', h1, h2⟩ := h.2 k i (place_get hk)
  rw [hl] at h1
  cases h1
  exact h2
mutual
theorem rep_pack (hi : Inv E g st w) {ids : List Nat} {M' : List Loc} (hM : Picked g.M ids M') : ∀ {v : V T} {x : Value}, Rep E g v x → ∀ {v' : V T}, (vers0 st v).ren (place ids) noH = some v' → Rep E ⟨g.G, M'⟩ v' x
  | _, _, .fc h, v', hv => by
    cases h <;> simp only [vers0, V.ren, Own.ren, Option.some.injEq] at hv <;> subst hv
    · exact .fc (.int _ _)
    · exact .fc (.bool _)
    · exact .fc (.str _)
    · exact .fc (.sl0 _)
    · exact .fc (.sle _ _ _)
    · rename_i hc h hz
      exact .fc (.sl _ _ _ _ _ _ hc h hz)
  | _, _, .slnil e, v', hv => by
    simp only [vers0, V.ren, Own.ren, Option.some.injEq] at hv; subst hv; exact .slnil e
  | _, _, .slfull h, v', hv => by
    simp only [vers0, V.ren, Own.ren, Option.some.injEq] at hv; subst hv; exact .slfull h
  | _, _, .sltok (i := i) (ver := ver) (ver' := ver') h hm hle he, v', hv => by
    simp only [vers0] at hv
    split at hv
    · rename_i e0 ver0 hst
      have hok := hi.obs i _ _ hst hm
      have hv0 : ver0 = ver' := hok.1
      split at hv
      · rename_i hb
        have hvv := Nat.eq_of_beq_eq_true hb
        simp only [V.ren, Own.ren, Option.some.injEq] at hv
        subst hv
        cases hp : place ids i with
        | none => exact .fc h
        | some k =>
          have hk := hM.at hp hm
          exact .sltok h hk (Nat.le_refl _) fun _ => he (by omega)
      · simp only [V.ren, Own.ren, Option.some.injEq] at hv
        subst hv
        exact .fc h
    · simp only [V.ren, Own.ren, Option.some.injEq] at hv
      subst hv
      exact .fc h
  | _, _, .nsl, v', hv => by
    simp only [vers0, V.ren, Option.some.injEq] at hv; subst hv; exact .nsl
  | _, _, .agg h h1, v', hv => by
    simp only [vers0, V.ren] at hv
    split at hv
    · rename_i cs hcs
      simp only [Option.some.injEq] at hv
      subst hv
      exact .agg (reps_pack hi hM h hcs) h1
    · cases hv
  | _, _, .ptr hm, v', hv => by
    simp only [vers0, V.ren] at hv
    split at hv
    · rename_i k hk
      simp only [Option.some.injEq] at hv
      subst hv
      exact .ptr (hM.at hk hm)
    · cases hv
  | _, _, .npt, v', hv => by
    simp only [vers0, V.ren, Option.some.injEq] at hv; subst hv; exact .npt
  | _, _, .adr h hz, v', hv => by
    simp only [vers0, V.ren, Option.some.injEq] at hv; subst hv; exact .adr h hz
  | _, _, .asl hm, v', hv => by
    simp only [vers0, V.ren] at hv
    split at hv
    · rename_i k hk
      simp only [Option.some.injEq] at hv
      subst hv
      exact .asl (hM.at hk hm)
    · cases hv
  | _, _, .elt hm hj, v', hv => by
    simp only [vers0, V.ren] at hv
    split at hv
    · rename_i k hk
      simp only [Option.some.injEq] at hv
      subst hv
      exact .elt (hM.at hk hm) hj
    · cases hv
  | _, _, .map hm, v', hv => by
    simp only [vers0, V.ren] at hv
    split at hv
    · rename_i k hk
      simp only [Option.some.injEq] at hv
      subst hv
      exact .map (hM.at hk hm)
    · cases hv
  | _, _, .nmp, v', hv => by
    simp only [vers0, V.ren, Option.some.injEq] at hv; subst hv; exact .nmp
  | _, _, .fn ha hc, v', hv => by
    simp only [vers0, V.ren] at hv
    split at hv
    · rename_i a c h1 h2
      simp only [Option.some.injEq] at hv
      subst hv
      exact .fn (reps_pack hi hM ha h1) (reps_pack hi hM hc h2)
    · cases hv
  | _, _, .nfn, v', hv => by
    simp only [vers0, V.ren, Option.some.injEq] at hv; subst hv; exact .nfn
  | _, _, .ifc h, v', hv => by
    simp only [vers0, V.ren] at hv
    split at hv
    · rename_i k hk
      simp only [Option.some.injEq] at hv
      subst hv
      exact .ifc (rep_pack hi hM h hk)
    · cases hv
  | _, _, .nif, v', hv => by
    simp only [vers0, V.ren, Option.some.injEq] at hv; subst hv; exact .nif
  | _, _, .tup h, v', hv => by
    simp only [vers0, V.ren] at hv
    split at hv
    · rename_i k hk
      simp only [Option.some.injEq] at hv
      subst hv
      exact .tup (reps_pack hi hM h hk)
    · cases hv
  | _, _, .stamp hm hk hb, v', hv => by
    simp only [vers0, V.ren] at hv
    split at hv
    · rename_i i k h1 h2
      simp only [Option.some.injEq] at hv
      subst hv
      exact .stamp (hM.at h1 hm) (rep_pack hi hM hk h2) hb
    · cases hv
  | _, _, .itr hm, v', hv => by
    simp only [vers0, V.ren] at hv
    split at hv
    · rename_i k hk
      simp only [Option.some.injEq] at hv
      subst hv
      exact .itr (hM.at hk hm)
    · cases hv
  | _, _, .und, v', hv => by
    simp only [vers0, V.ren, Option.some.injEq] at hv; subst hv; exact .und
theorem reps_pack (hi : Inv E g st w) {ids : List Nat} {M' : List Loc} (hM : Picked g.M ids M') : ∀ {vs : List (V T)} {xs : List Value}, Reps E g vs xs → ∀ {vs' : List (V T)}, V.ren.rens (place ids) noH (vers0.vers0s st vs) = some vs' → Reps E ⟨g.G, M'⟩ vs' xs
  | _, _, .nil, vs', hv => by
    simp only [vers0.vers0s, V.ren.rens, Option.some.injEq] at hv; subst hv; exact .nil
  | _, _, .cons h hs, vs', hv => by
    simp only [vers0.vers0s, V.ren.rens] at hv
    split at hv
    · rename_i h1 h2
      simp only [Option.some.injEq] at hv
      subst hv
      exact .cons (rep_pack hi hM h h1) (reps_pack hi hM hs h2)
    · cases hv
end

theorem obs0_get : ∀ {l : List (Ob T)} {i : Nat}, (obs0 st l)[i]? = (l[i]?).map (Ob.vers0 st)
  | [], i => by simp [obs0]
  | o :: l, 0 => by simp [obs0]
  | o :: l, i + 1 => by simpa [obs0] using obs0_get (l := l) (i := i)
theorem obsAt_get {f : Nat → Option Nat} {h : Nat → Nat} {st' : List (Ob T)} : ∀ {ids : List Nat} {obs : List (Ob T)}, obsAt st' f h ids = some obs → obs.length = ids.length ∧ ∀ (k i : Nat), ids[k]? = some i → ∃ o o', st'[i]? = some o ∧ o.ren f h i = some o' ∧ obs[k]? = some o'
  | [], obs, hh => by
    simp only [obsAt, Option.some.injEq] at hh
    subst hh
    exact ⟨rfl, fun k i hk => by simp at hk⟩
  | i :: is, obs, hh => by
    simp only [obsAt] at hh
    split at hh
    · rename_i o os h1 h2
      split at hh
      · rename_i o' h3
        simp only [Option.some.injEq] at hh
        subst hh
        obtain ⟨h4, h5⟩ := obsAt_get h2
        refine ⟨by simp [h4], fun k j hk => ?_⟩
        cases k with
        | zero =>
          simp only [List.getElem?_cons_zero, Option.some.injEq] at hk
          subst hk
          exact ⟨o, o', h1, h3, rfl⟩
        | succ k => simpa using h5 k j (by simpa using hk)
      · cases hh
    · cases hh
/-- One object, its names and counts new. -/
theorem ob_pack (hi : Inv E g st w) {ids : List Nat} {M' : List Loc} (hM : Picked g.M ids M') {i : Nat} {o o' : Ob T} {l : Loc} (ho : st[i]? = some o) (hl : g.M[i]? = some l) (h : (o.vers0 st).ren (place ids) noH i = some o') :
    ObOk E ⟨g.G, M'⟩ w o' (l.at fun _ => 0) := by
  have hok := hi.obs i o l ho hl
  cases o <;> simp only [Ob.vers0, Ob.ren, Option.some.injEq] at h <;> cases l <;> simp only [ObOk] at hok
  case box.box t cs b =>
    split at h
    · rename_i cs' hcs
      simp only [Option.some.injEq] at h
      subst h
      obtain ⟨vs, h1, h2, h3, h4⟩ := hok
      exact ⟨vs, h1, reps_pack hi hM h2 hcs, h3, h4⟩
    · cases h
  case arr.arr => subst h; exact hok
  case fro.arr => subst h; exact hok
  case vec.vec =>
    subst h
    exact ⟨rfl, hok.2.1, hok.2.2.1, hok.2.2.2⟩
  case map.map =>
    subst h
    obtain ⟨es, clock, h1, h2, h3⟩ := hok
    exact ⟨es, clock, h1, ents_le (g := g) (g' := ⟨g.G, M'⟩) rfl h2, h3⟩
  case iter.iter => subst h; exact hok
  case dead.none => cases h

def pickM (M : List Loc) (ids : List Nat) : List Loc := ids.map fun i => (M.getD i .none).at fun _ => 0
/-- Values and what they lead to, under new names. -/
theorem pack_ok (hi : Inv E g st w) {keep : Nat} {vs vs' : List (V T)} {xs : List Value} {ids : List Nat} {obs : List (Ob T)} (h : pack st keep vs = some (ids, vs', obs)) (hr : Reps E g vs xs) :
    ∃ g', g'.G = g.G ∧ Picked g.M ids g'.M ∧ Inv E g' obs w ∧ Reps E g' vs' xs ∧ ids.Nodup ∧ (∃ l, ids = List.range keep ++ l) ∧ obs.length = ids.length ∧ (∀ i ∈ ids, ∃ o, st[i]? = some o ∧ o ≠ .dead) ∧ Ext g g' w w ∧ (∀ b, g'.owns b → ∃ i l, i ∈ ids ∧ g.M[i]? = some l ∧ l.block = some b) := by
  unfold pack at h
  dsimp only at h
  split at h
  case h_2 => cases h
  rename_i vs2 obs2 h1 h2
  simp only [Option.some.injEq, Prod.mk.injEq] at h
  obtain ⟨rfl, rfl, rfl⟩ := h
  generalize hids : closure st (V.uses.usess (List.range keep) vs) = ids at h1 h2 ⊢
  have hnd : ids.Nodup := by
    rw [← hids]
    exact reach_nodup _ _ (V.usess_nodup _ List.nodup_range)
  have hpre : ∃ l, ids = List.range keep ++ l := by
    obtain ⟨l, h3⟩ := V.usess_pre vs (List.range keep)
    obtain ⟨m, h4⟩ := reach_pre (st := st) 4096 (List.range keep ++ l) (List.range keep ++ l)
    refine ⟨l ++ m, ?_⟩
    rw [← hids]
    unfold closure
    rw [h3, h4, List.append_assoc]
  obtain ⟨hlen, hget⟩ := obsAt_get h2
  have hin : ∀ (k i : Nat), ids[k]? = some i → ∃ o l, st[i]? = some o ∧ g.M[i]? = some l := fun k i hk => by
    obtain ⟨o, o', h3, h4, h5⟩ := hget k i hk
    rw [obs0_get] at h3
    cases hst : st[i]? with
    | none => simp [hst] at h3
    | some o0 =>
      have hlt : i < g.M.length := by rw [hi.len]; exact (List.getElem?_eq_some_iff.1 hst).1
      exact ⟨o0, g.M[i], rfl, by simp [hlt]⟩
  have hP : Picked g.M ids (pickM g.M ids) := by
    refine ⟨by simp [pickM], fun k i hk => ?_⟩
    obtain ⟨o, l, _, hl⟩ := hin k i hk
    exact ⟨l, hl, by simp [pickM, hk, hl]⟩
  have hback : ∀ (k : Nat) (l : Loc), (pickM g.M ids)[k]? = some l → ∃ i l0, ids[k]? = some i ∧ g.M[i]? = some l0 ∧ l = l0.at fun _ => 0 := fun k l hk => by
    have hlt : k < ids.length := by
      have := (List.getElem?_eq_some_iff.1 hk).1
      simpa [pickM] using this
    obtain ⟨l0, h3, h4⟩ := hP.2 k ids[k] (by simp [hlt])
    rw [hk] at h4
    cases h4
    exact ⟨ids[k], l0, by simp [hlt], h3, rfl⟩
  have hown : ∀ b, (⟨g.G, pickM g.M ids⟩ : Gh).owns b → ∃ i l, i ∈ ids ∧ g.M[i]? = some l ∧ l.block = some b := fun b ⟨k, l, hk, hb⟩ => by
    obtain ⟨i, l0, h3, h4, rfl⟩ := hback k l hk
    rw [Loc.at_block] at hb
    exact ⟨i, l0, List.mem_of_getElem? h3, h4, hb⟩
  refine ⟨⟨g.G, pickM g.M ids⟩, rfl, hP, ⟨hi.froz, by rw [hlen]; simp [pickM], ?_, ?_, hi.glob, hi.ints⟩, reps_pack hi hP hr h1, hnd, hpre, hlen, ?_, ?_, hown⟩
  · intro k o' l' ho hl
    obtain ⟨i, l0, h3, h4, rfl⟩ := hback k l' hl
    obtain ⟨o1, o2, h5, h6, h7⟩ := hget k i h3
    rw [ho] at h7
    cases h7
    rw [obs0_get] at h5
    cases hst : st[i]? with
    | none => simp [hst] at h5
    | some o0 =>
      simp only [hst, Option.map_some, Option.some.injEq] at h5
      subst h5
      exact ob_pack hi hP hst h4 h6
  · intro k k' l l' b hk hk' hb hb'
    obtain ⟨i, l0, h3, h4, rfl⟩ := hback k l hk
    obtain ⟨i', l0', h3', h4', rfl⟩ := hback k' l' hk'
    rw [Loc.at_block] at hb hb'
    have := hi.apart i i' l0 l0' b h4 h4' hb hb'
    subst this
    exact (List.getElem?_inj (List.getElem?_eq_some_iff.1 h3).1 hnd).1 (h3.trans h3'.symm)
  · intro i hm
    obtain ⟨k, hlt, hk⟩ := List.getElem_of_mem hm
    obtain ⟨o, o', h3, h4, h5⟩ := hget k i (by simp [hlt, hk])
    rw [obs0_get] at h3
    cases hst : st[i]? with
    | none => simp [hst] at h3
    | some o0 =>
      refine ⟨o0, rfl, fun he => ?_⟩
      subst he
      simp only [hst, Option.map_some, Option.some.injEq] at h3
      subst h3
      cases h4
  · exact ⟨.refl _, rfl, rfl, rfl, Nat.le_refl _, fun _ _ _ => ⟨rfl, fun _ => rfl⟩, fun b hb => by
      obtain ⟨i, l, _, h3, h4⟩ := hown b hb
      exact .inl ⟨i, l, h3, h4⟩⟩
end
end Go.Proofs.YtnenfgpjedddoaaGreat.AI

/- Objects come back from a call. -/
set_option linter.unusedVariables false
set_option linter.unusedSectionVars false
set_option linter.unusedSimpArgs false
namespace Go.Proofs.YtnenfgpjedddoaaGreat.AI
open Go

variable {K : Type} [DecidableEq K] {T : K → Type} {E : Env T} {P : Program}

/-- Where each object goes. -/
def Moved (M M' : List Loc) (f : Nat → Option Nat) (h : Nat → Nat) : Prop := ∀ (i k : Nat) (l : Loc), f i = some k → M[i]? = some l → M'[k]? = some (l.at fun v => h i + v)
section
variable {g : Gh} {M' : List Loc} {f : Nat → Option Nat} {h : Nat → Nat}
mutual
theorem rep_back (hM : Moved g.M M' f h) : ∀ {v : V T} {x : Value}, Rep E g v x → ∀ {v' : V T}, v.ren f h = some v' → Rep E ⟨g.G, M'⟩ v' x
  | _, _, .fc hh, v', hv => by
    cases hh <;> simp only [V.ren, Own.ren, Option.some.injEq] at hv <;> subst hv
    · exact .fc (.int _ _)
    · exact .fc (.bool _)
    · exact .fc (.str _)
    · exact .fc (.sl0 _)
    · exact .fc (.sle _ _ _)
    · rename_i hc h hz
      exact .fc (.sl _ _ _ _ _ _ hc h hz)
  | _, _, .slnil e, v', hv => by
    simp only [V.ren, Own.ren, Option.some.injEq] at hv; subst hv; exact .slnil e
  | _, _, .slfull h, v', hv => by
    simp only [V.ren, Own.ren, Option.some.injEq] at hv; subst hv; exact .slfull h
  | _, _, .sltok (i := i) (ver := ver) (ver' := ver') hh hm hle he, v', hv => by
    simp only [V.ren, Own.ren, Option.some.injEq] at hv
    cases hp : f i with
    | none =>
      rw [hp] at hv
      subst hv
      exact .fc hh
    | some k =>
      rw [hp] at hv
      subst hv
      exact .sltok hh (hM _ _ _ hp hm) (Nat.add_le_add_left hle _) fun e => he (Nat.add_left_cancel e)
  | _, _, .nsl, v', hv => by
    simp only [V.ren, Option.some.injEq] at hv; subst hv; exact .nsl
  | _, _, .agg hh h1, v', hv => by
    simp only [V.ren] at hv
    split at hv
    · rename_i k hk
      simp only [Option.some.injEq] at hv
      subst hv
      exact .agg (reps_back hM hh hk) h1
    · cases hv
  | _, _, .ptr hm, v', hv => by
    simp only [V.ren] at hv
    split at hv
    · rename_i k hk
      simp only [Option.some.injEq] at hv
      subst hv
      exact .ptr (hM _ _ _ hk hm)
    · cases hv
  | _, _, .npt, v', hv => by
    simp only [V.ren, Option.some.injEq] at hv; subst hv; exact .npt
  | _, _, .adr h hz, v', hv => by
    simp only [V.ren, Option.some.injEq] at hv; subst hv; exact .adr h hz
  | _, _, .asl hm, v', hv => by
    simp only [V.ren] at hv
    split at hv
    · rename_i k hk
      simp only [Option.some.injEq] at hv
      subst hv
      exact .asl (hM _ _ _ hk hm)
    · cases hv
  | _, _, .elt hm hj, v', hv => by
    simp only [V.ren] at hv
    split at hv
    · rename_i k hk
      simp only [Option.some.injEq] at hv
      subst hv
      exact .elt (hM _ _ _ hk hm) hj
    · cases hv
  | _, _, .map hm, v', hv => by
    simp only [V.ren] at hv
    split at hv
    · rename_i k hk
      simp only [Option.some.injEq] at hv
      subst hv
      exact .map (hM _ _ _ hk hm)
    · cases hv
  | _, _, .nmp, v', hv => by
    simp only [V.ren, Option.some.injEq] at hv; subst hv; exact .nmp
  | _, _, .fn ha hc, v', hv => by
    simp only [V.ren] at hv
    split at hv
    · rename_i a c h1 h2
      simp only [Option.some.injEq] at hv
      subst hv
      exact .fn (reps_back hM ha h1) (reps_back hM hc h2)
    · cases hv
  | _, _, .nfn, v', hv => by
    simp only [V.ren, Option.some.injEq] at hv; subst hv; exact .nfn
  | _, _, .ifc hh, v', hv => by
    simp only [V.ren] at hv
    split at hv
    · rename_i k hk
      simp only [Option.some.injEq] at hv
      subst hv
      exact .ifc (rep_back hM hh hk)
    · cases hv
  | _, _, .nif, v', hv => by
    simp only [V.ren, Option.some.injEq] at hv; subst hv; exact .nif
  | _, _, .tup hh, v', hv => by
    simp only [V.ren] at hv
    split at hv
    · rename_i k hk
      simp only [Option.some.injEq] at hv
      subst hv
      exact .tup (reps_back hM hh hk)
    · cases hv
  | _, _, .stamp hm hk hb, v', hv => by
    simp only [V.ren] at hv
    split at hv
    · rename_i i k h1 h2
      simp only [Option.some.injEq] at hv
      subst hv
      exact .stamp (hM _ _ _ h1 hm) (rep_back hM hk h2) hb
    · cases hv
  | _, _, .itr hm, v', hv => by
    simp only [V.ren] at hv
    split at hv
    · rename_i k hk
      simp only [Option.some.injEq] at hv
      subst hv
      exact .itr (hM _ _ _ hk hm)
    · cases hv
  | _, _, .und, v', hv => by
    simp only [V.ren, Option.some.injEq] at hv; subst hv; exact .und
theorem reps_back (hM : Moved g.M M' f h) : ∀ {vs : List (V T)} {xs : List Value}, Reps E g vs xs → ∀ {vs' : List (V T)}, V.ren.rens f h vs = some vs' → Reps E ⟨g.G, M'⟩ vs' xs
  | _, _, .nil, vs', hv => by
    simp only [V.ren.rens, Option.some.injEq] at hv; subst hv; exact .nil
  | _, _, .cons hh hs, vs', hv => by
    simp only [V.ren.rens] at hv
    split at hv
    · rename_i h1 h2
      simp only [Option.some.injEq] at hv
      subst hv
      exact .cons (rep_back hM hh h1) (reps_back hM hs h2)
    · cases hv
end
theorem ob_back {st : List (Ob T)} {w : World} (hi : Inv E g st w) (hM : Moved g.M M' f h) {i : Nat} {o o' : Ob T} {l : Loc} (ho : st[i]? = some o) (hl : g.M[i]? = some l) (hr : o.ren f h i = some o') :
    ObOk E ⟨g.G, M'⟩ w o' (l.at fun v => h i + v) := by
  have hok := hi.obs i o l ho hl
  cases o <;> simp only [Ob.ren, Option.some.injEq] at hr <;> cases l <;> simp only [ObOk] at hok
  case box.box t cs b =>
    split at hr
    · rename_i cs' hcs
      simp only [Option.some.injEq] at hr
      subst hr
      obtain ⟨vs, h1, h2, h3, h4⟩ := hok
      exact ⟨vs, h1, reps_back hM h2 hcs, h3, h4⟩
    · cases hr
  case arr.arr => subst hr; exact hok
  case fro.arr => subst hr; exact hok
  case vec.vec =>
    subst hr
    exact ⟨by rw [hok.1], hok.2.1, hok.2.2.1, hok.2.2.2⟩
  case map.map =>
    subst hr
    obtain ⟨es, clock, h1, h2, h3⟩ := hok
    exact ⟨es, clock, h1, ents_le (g := g) (g' := ⟨g.G, M'⟩) rfl h2, h3⟩
  case iter.iter => subst hr; exact hok
  case dead.none => cases hr
end

/-! ### Things put at places -/
def puts {α : Type} : List Nat → List α → List α → List α
  | i :: is, o :: os, st => puts is os (st.set i o)
  | _, _, st => st
theorem putAll_eq : ∀ (is : List Nat) (os st : List (Ob T)), putAll is os st = puts is os st
  | [], _, _ => by simp [putAll, puts]
  | _ :: _, [], _ => by simp [putAll, puts]
  | i :: is, o :: os, st => by simpa [putAll, puts] using putAll_eq is os (st.set i o)
theorem puts_length {α : Type} : ∀ (is : List Nat) (os st : List α), (puts is os st).length = st.length
  | [], _, _ => by simp [puts]
  | _ :: _, [], _ => by simp [puts]
  | i :: is, o :: os, st => by simp [puts, puts_length is os]
theorem puts_out {α : Type} : ∀ (is : List Nat) (os st : List α) (i : Nat), (∀ (k : Nat), k < os.length → is[k]? ≠ some i) → (puts is os st)[i]? = st[i]?
  | [], _, _, _, _ => by simp [puts]
  | _ :: _, [], _, _, _ => by simp [puts]
  | j :: is, o :: os, st, i, h => by
    simp only [puts]
    rw [puts_out is os _ i (fun k hk => by simpa using h (k + 1) (by simpa using hk))]
    have := h 0 (by simp)
    simp only [List.getElem?_cons_zero, ne_eq, Option.some.injEq] at this
    exact List.getElem?_set_ne this
theorem puts_in {α : Type} : ∀ (is : List Nat) (os st : List α) (i k : Nat) (o : α), is.Nodup → is[k]? = some i → os[k]? = some o → i < st.length → (puts is os st)[i]? = some o
  | [], _, _, _, _, _, _, hk, _, _ => by simp at hk
  | _ :: _, [], _, _, _, _, _, _, ho, _ => by simp at ho
  | j :: is, o' :: os, st, i, 0, o, hn, hk, ho, hi => by
    simp only [List.getElem?_cons_zero, Option.some.injEq] at hk ho
    subst hk; subst ho
    simp only [puts]
    rw [puts_out is os _ j (fun k _ he => (List.nodup_cons.1 hn).1 (List.mem_of_getElem? he))]
    simp [hi]
  | j :: is, o' :: os, st, i, k + 1, o, hn, hk, ho, hi => by
    simp only [puts]
    exact puts_in is os _ i k o (List.nodup_cons.1 hn).2 (by simpa using hk) (by simpa using ho) (by simpa using hi)

/-- What a function that was called leaves. -/
structure Left (E : Env T) (g : Gh) (w : World) (g' : Gh) (obs' : List (Ob T)) (w' : World) : Prop where
  inv : Inv E g' obs' w'
  ext : Ext g g' w w'
  kin : ∀ (i : Nat) (l : Loc), g.M[i]? = some l → ∃ l', g'.M[i]? = some l' ∧ l.Kin l'

section
variable {g g2 g2' : Gh} {st obs obs' obs'' : List (Ob T)} {w w' : World} {ids pos : List Nat} {f : Nat → Option Nat}
theorem back_ok (hi : Inv E g st w) (hP : Picked g.M ids g2.M) (hG : g2.G = g.G) (hown : ∀ b, g2.owns b → ∃ i l, i ∈ ids ∧ g.M[i]? = some l ∧ l.block = some b) (hL : Left E g2 w g2' obs' w')
    (hpos : ∀ (k : Nat), k < obs'.length → f k = pos[k]?) (hpre : ∀ (k i : Nat), ids[k]? = some i → pos[k]? = some i) (hnd : pos.Nodup) (hlen : obs'.length ≤ pos.length) (hin : ∀ i ∈ pos, i < st.length)
    (hdead : ∀ (k i : Nat), ids.length ≤ k → pos[k]? = some i → st[i]? = some .dead)
    (hobs : obsAt obs' f (verOf st ids) (List.range obs'.length) = some obs'') {v v' : V T} {x : Value} (hv : v.ren f (verOf st ids) = some v') (hr : Rep E g2' v x) :
    ∃ g3, To E g w g3 (putAll pos obs'' st) w' ∧ Rep E g3 v' x := by
  have hl2 := hL.inv.len
  let locs : List Loc := (List.range obs'.length).map fun k => ((g2'.M.getD k .none).at fun u => verOf st ids k + u)
  have hlocs : ∀ (k : Nat) (l : Loc), g2'.M[k]? = some l → locs[k]? = some (l.at fun u => verOf st ids k + u) := fun k l hk => by
    have hlt : k < obs'.length := by rw [← hl2]; exact (List.getElem?_eq_some_iff.1 hk).1
    simp [locs, hlt, hk]
  have hlen2 : locs.length = obs'.length := by simp [locs]
  have hgl : g.M.length = st.length := hi.len
  have hM3in : ∀ (k i : Nat) (l : Loc), pos[k]? = some i → g2'.M[k]? = some l → (puts pos locs g.M)[i]? = some (l.at fun u => verOf st ids k + u) := fun k i l hk hl =>
    puts_in pos locs g.M i k _ hnd hk (hlocs k l hl) (by rw [hgl]; exact hin i (List.mem_of_getElem? hk))
  have hM : Moved g2'.M (puts pos locs g.M) f (verOf st ids) := fun k i l hf hl => by
    have hlt : k < obs'.length := by rw [← hl2]; exact (List.getElem?_eq_some_iff.1 hl).1
    rw [hpos k hlt] at hf
    exact hM3in k i l hf hl
  obtain ⟨hol, hog⟩ := obsAt_get hobs
  rw [List.length_range] at hol
  -- each place of the new row: an object that comes back, or an old one
  have hcase : ∀ (i : Nat), (∃ k, k < obs'.length ∧ pos[k]? = some i) ∨ (∀ (k : Nat), k < obs'.length → pos[k]? ≠ some i) := fun i => by
    by_cases h : ∃ k, k < obs'.length ∧ pos[k]? = some i
    · exact .inl h
    · exact .inr fun k hk he => h ⟨k, hk, he⟩
  have hkl : ∀ (k i : Nat), ids[k]? = some i → k < obs'.length := fun k i hk => by
    obtain ⟨l, h1, h2⟩ := hP.2 k i hk
    obtain ⟨l', h3, _⟩ := hL.kin k _ h2
    rw [← hl2]
    exact (List.getElem?_eq_some_iff.1 h3).1
  have hnotin : ∀ (i : Nat), (∀ (k : Nat), k < obs'.length → pos[k]? ≠ some i) → i ∉ ids := fun i h hm => by
    obtain ⟨k, hlt, hk⟩ := List.getElem_of_mem hm
    have hk' : ids[k]? = some i := by simp [hlt, hk]
    exact h k (hkl k i hk') (hpre k i hk')
  have hMle : g.Le ⟨g2'.G, puts pos locs g.M⟩ := by
    refine ⟨?_, fun i l hl => ?_⟩
    · have := hL.ext.G
      rw [hG] at this
      exact this
    · rcases hcase i with ⟨k, hk, hp⟩ | hno
      · have hk2 : k < g2'.M.length := by rw [hl2]; exact hk
        refine ⟨_, hM3in k i g2'.M[k] hp (by simp [hk2]), ?_⟩
        by_cases hki : k < ids.length
        · have hid : ids[k]? = some ids[k] := by simp [hki]
          have hpi := hpre k _ hid
          rw [hp] at hpi
          simp only [Option.some.injEq] at hpi
          obtain ⟨l0, h1, h2⟩ := hP.2 k _ hid
          rw [← hpi, hl] at h1
          cases h1
          obtain ⟨l', h3, h4⟩ := hL.kin k _ h2
          have h3' : g2'.M[k] = l' := by
            have : g2'.M[k]? = some g2'.M[k] := by simp [hk2]
            rw [h3] at this; cases this; rfl
          rw [h3']
          cases l with
          | vec ver a n cap m =>
            cases l' with
            | vec ver2 a2 n2 cap2 m2 =>
              have hst : i < st.length := by rw [← hgl]; exact (List.getElem?_eq_some_iff.1 hl).1
              have hob := hi.obs i st[i] _ (by simp [hst]) hl
              have hv : verOf st ids k = ver + 1 := by
                unfold verOf
                rw [hid, ← hpi]
                dsimp only
                have : st[i]? = some st[i] := by simp [hst]
                rw [this]
                cases hsi : st[i] <;> rw [hsi] at hob <;> simp only [ObOk] at hob
                simp [hob.1]
              simp only [Loc.Le, Loc.at]
              refine ⟨by omega, fun h => by omega⟩
            | _ => exact absurd h4 (by simp [Loc.Kin, Loc.at])
          | none => trivial
          | box b => cases l' <;> simp only [Loc.Kin, Loc.at] at h4 <;> first | exact h4 | cases h4
          | arr b n sz => cases l' <;> simp only [Loc.Kin, Loc.at] at h4 <;> first | exact h4 | cases h4
          | map r bs => cases l' <;> simp only [Loc.Kin, Loc.at] at h4 <;> first | exact h4 | cases h4
          | iter r => cases l' <;> simp only [Loc.Kin, Loc.at] at h4 <;> first | exact h4 | cases h4
        · have hd := hdead k i (by omega) hp
          have hn := hi.dead_loc hd
          rw [hl] at hn
          cases hn
          trivial
      · exact ⟨l, by rw [puts_out _ _ _ _ (by rw [hlen2]; exact hno)]; exact hl, .refl _⟩
  have hkeep : ∀ b, b < w.heap.size → ¬ g2.owns b → w'.heap[b]? = w.heap[b]? ∧ ∀ off, g2'.G b off = g.G b off := fun b hb hn => by
    have := hL.ext.keeps b hb hn
    rw [hG] at this
    exact this
  have hold : ∀ (i : Nat) (l : Loc) (b : Nat), (∀ (k : Nat), k < obs'.length → pos[k]? ≠ some i) → g.M[i]? = some l → l.block = some b → ¬ g2.owns b := fun i l b hno hl hb ho => by
    obtain ⟨i', l', h1, h2, h3⟩ := hown b ho
    have := hi.apart i i' l l' b hl h2 hb h3
    subst this
    exact hnotin i hno h1
  have hnewown : ∀ (k : Nat) (l : Loc) (b : Nat), g2'.M[k]? = some l → l.block = some b → g2.owns b ∨ w.heap.size ≤ b := fun k l b hk hb => hL.ext.own b ⟨k, l, hk, hb⟩
  have hM3 : ∀ (i : Nat) (l : Loc), (puts pos locs g.M)[i]? = some l → (∃ k l0, k < obs'.length ∧ pos[k]? = some i ∧ g2'.M[k]? = some l0 ∧ l = l0.at fun u => verOf st ids k + u) ∨ ((∀ (k : Nat), k < obs'.length → pos[k]? ≠ some i) ∧ g.M[i]? = some l) := fun i l hl => by
    rcases hcase i with ⟨k, hk, hp⟩ | hno
    · have hk2 : k < g2'.M.length := by rw [hl2]; exact hk
      have := hM3in k i g2'.M[k] hp (by simp [hk2])
      rw [hl] at this
      cases this
      exact .inl ⟨k, _, hk, hp, by simp [hk2], rfl⟩
    · rw [puts_out _ _ _ _ (by rw [hlen2]; exact hno)] at hl
      exact .inr ⟨hno, hl⟩
  refine ⟨⟨g2'.G, puts pos locs g.M⟩, ⟨hMle, ⟨hL.inv.froz, ?_, ?_, ?_, ?_, ?_⟩, ⟨?_, hL.ext.os, hL.ext.tape, hL.ext.output, hL.ext.size, ?_, ?_⟩⟩, rep_back hM hr hv⟩
  · rw [putAll_eq, puts_length, puts_length, hgl]
  · intro i ob l hob hl
    rw [putAll_eq] at hob
    rcases hM3 i l hl with ⟨k, l0, hk, hp, hl0, rfl⟩ | ⟨hno, hl0⟩
    · obtain ⟨o, o', h1, h2, h3⟩ := hog k k (by simp [hk])
      rw [puts_in pos obs'' st i k o' hnd hp h3 (hin i (List.mem_of_getElem? hp))] at hob
      cases hob
      exact ob_back hL.inv hM h1 hl0 h2
    · rw [puts_out _ _ _ _ (by rw [hol]; exact hno)] at hob
      exact (hi.obs i ob l hob hl0).mono hMle hL.ext.size fun b hb => hkeep b (hi.lt hl0 hb) (hold i l b hno hl0 hb)
  · intro i j l l' b hli hlj hb hb'
    rcases hM3 i l hli with ⟨k, l0, hk, hp, hl0, rfl⟩ | ⟨hno, hl0⟩ <;> rcases hM3 j l' hlj with ⟨k', l0', hk', hp', hl0', rfl⟩ | ⟨hno', hl0'⟩
    · rw [Loc.at_block] at hb hb'
      have := hL.inv.apart k k' l0 l0' b hl0 hl0' hb hb'
      subst this
      rw [hp] at hp'
      cases hp'
      rfl
    · rw [Loc.at_block] at hb
      rcases hnewown k l0 b hl0 hb with ho | hle
      · exact absurd ho (hold j l' b hno' hl0' hb')
      · exact absurd (hi.lt hl0' hb') (by omega)
    · rw [Loc.at_block] at hb'
      rcases hnewown k' l0' b hl0' hb' with ho | hle
      · exact absurd ho (hold i l b hno hl0 hb)
      · exact absurd (hi.lt hl0 hb) (by omega)
    · exact hi.apart i j l l' b hl0 hl0' hb hb'
  · intro gl cs hgl'
    obtain ⟨vs, a, b⟩ := hi.glob gl cs hgl'
    exact ⟨vs, a.mono hMle.G, b.mono hMle.G⟩
  · intro gl hgl'
    obtain ⟨m, hm⟩ := hi.ints gl hgl'
    exact ⟨m, hMle.G _ _ _ hm⟩
  · exact hMle.G
  · intro b hb hn
    refine hkeep b hb fun ho => hn ?_
    obtain ⟨i, l, _, h2, h3⟩ := hown b ho
    exact ⟨i, l, h2, h3⟩
  · rintro b ⟨i, l, hl, hb⟩
    rcases hM3 i l hl with ⟨k, l0, hk, hp, hl0, rfl⟩ | ⟨hno, hl0⟩
    · rw [Loc.at_block] at hb
      rcases hnewown k l0 b hl0 hb with ho | hle
      · obtain ⟨i', l', _, h2, h3⟩ := hown b ho
        exact .inl ⟨i', l', h2, h3⟩
      · exact .inr hle
    · exact .inl ⟨i, l, hl0, hb⟩
end
end Go.Proofs.YtnenfgpjedddoaaGreat.AI

/- What a caller does about a call. -/
set_option linter.unusedVariables false
set_option linter.unusedSectionVars false
set_option linter.unusedSimpArgs false
namespace Go.Proofs.YtnenfgpjedddoaaGreat.AI
open Go

variable {K : Type} [DecidableEq K] {T : K → Type} {E : Env T} {P : Program}
section
variable {g : Gh} {st : List (Ob T)} {w : World}

mutual
theorem Rep.plain : ∀ {v : V T} {x : Value}, Rep E g v x → Rep E g v.plain x
  | _, _, .fc h => by
    cases h <;> simp only [V.plain]
    · exact .fc (.int _ _)
    · exact .fc (.bool _)
    · exact .fc (.str _)
    · exact .fc (.sl0 _)
    · exact .fc (.sle _ _ _)
    · rename_i hc h hz
      exact .fc (.sl _ _ _ _ _ _ hc h hz)
  | _, _, .slnil e => by simp only [V.plain]; exact .fc (.sl0 e)
  | _, _, .slfull h => by simp only [V.plain]; exact .fc h
  | _, _, .sltok h _ _ _ => by simp only [V.plain]; exact .fc h
  | _, _, .nsl => by simp only [V.plain]; exact .nsl
  | _, _, .agg h h1 => by simp only [V.plain]; exact .agg (Reps.plains h) h1
  | _, _, .ptr h => by simp only [V.plain]; exact .ptr h
  | _, _, .npt => by simp only [V.plain]; exact .npt
  | _, _, .adr a b => by simp only [V.plain]; exact .adr a b
  | _, _, .asl h => by simp only [V.plain]; exact .asl h
  | _, _, .elt h hj => by simp only [V.plain]; exact .elt h hj
  | _, _, .map h => by simp only [V.plain]; exact .map h
  | _, _, .nmp => by simp only [V.plain]; exact .nmp
  | _, _, .fn a b => by simp only [V.plain]; exact .fn a b
  | _, _, .nfn => by simp only [V.plain]; exact .nfn
  | _, _, .ifc h => by simp only [V.plain]; exact .ifc h
  | _, _, .nif => by simp only [V.plain]; exact .nif
  | _, _, .tup h => by simp only [V.plain]; exact .tup (Reps.plains h)
  | _, _, .stamp a b c => by simp only [V.plain]; exact .stamp a b c
  | _, _, .itr h => by simp only [V.plain]; exact .itr h
  | _, _, .und => by simp only [V.plain]; exact .und
theorem Reps.plains : ∀ {vs : List (V T)} {xs : List Value}, Reps E g vs xs → Reps E g (V.plain.plains vs) xs
  | _, _, .nil => .nil
  | _, _, .cons a b => .cons (Rep.plain a) (Reps.plains b)
end

theorem thaw_ok (hE : EnvOk P E) (hi : Inv E g st w) {v v' : V T} {x : Value} {st' : List (Ob T)} (hr : Rep E g v x) (h : thaw st v = some (v', st')) : ∃ g', To E g w g' st' w ∧ Rep E g' v' x := by
  unfold thaw at h
  split at h
  · rename_i i
    obtain ⟨b, n, sz, hM, rfl⟩ := hr.asl_inv
    split at h
    · rename_i e xs hob
      simp only [Option.some.injEq, Prod.mk.injEq] at h
      obtain ⟨rfl, rfl⟩ := h
      obtain ⟨rfl, rfl, hn, vs, hh, hl, hel⟩ := hi.obs i _ _ hob hM
      have hG : GLe g.G (plus g.G b 0 vs) := plus_le fun o' _ _ => hn o'
      have hels : Elems E g.G e xs vs := ⟨hl, hel⟩
      have hfc : Fc E (plus g.G b 0 vs) (.sl e xs .no) (.slice (some ⟨b, 0, none⟩) xs.length xs.length) := (hels.mono hG).fc (plus_fz _ _ _ _) (Nat.le_refl _)
      have hset := set_same hM
      have hstep := hi.step (w' := w) (ob' := .fro e xs) (l' := .arr b xs.length (E.size (E.num e))) (G' := plus g.G b 0 vs) hob hM (.refl _) hG
        (fun b' off v hv => by
          by_cases hb : b' = b
          · subst hb
            unfold plus at hv
            split at hv
            · rename_i hc
              rw [cell?_cells hh]
              simpa using hv
            · rw [hn] at hv; cases hv
          · rw [plus_other hb] at hv
            exact hi.froz _ _ _ hv) rfl rfl rfl (Nat.le_refl _) (fun b' _ hne => ⟨rfl, fun off => plus_other fun e => hne (by rw [e]; rfl)⟩) (fun b' hb => .inl hb)
        ⟨rfl, rfl, heap_lt hh, hfc⟩
      exact ⟨_, ⟨hstep.2.2, hstep.1, hstep.2.1⟩, .fc hfc⟩
    · rename_i e xs hob
      simp only [Option.some.injEq, Prod.mk.injEq] at h
      obtain ⟨rfl, rfl⟩ := h
      obtain ⟨rfl, rfl, hb, hfc⟩ := hi.obs i _ _ hob hM
      exact ⟨g, .refl hi, .fc hfc⟩
    · cases h
  · simp only [Option.some.injEq, Prod.mk.injEq] at h
    obtain ⟨rfl, rfl⟩ := h
    exact ⟨g, .refl hi, hr⟩
theorem handOver_ok (hE : EnvOk P E) : ∀ {args : List (V T)} {bs : List Bool} {g : Gh} {st st' : List (Ob T)} {args' : List (V T)} {xs : List Value}, Inv E g st w → Reps E g args xs → handOver st bs args = some (args', st') →
    ∃ g', To E g w g' st' w ∧ Reps E g' args' xs
  | [], bs, g, st, st', args', xs, hi, hr, h => by
    cases bs with
    | nil =>
      simp only [handOver, Option.some.injEq, Prod.mk.injEq] at h
      obtain ⟨rfl, rfl⟩ := h
      exact ⟨g, .refl hi, hr⟩
    | cons b bs =>
      cases b <;> simp only [handOver, Option.some.injEq, Prod.mk.injEq] at h <;> obtain ⟨rfl, rfl⟩ := h <;> exact ⟨g, .refl hi, hr⟩
  | v :: vs, bs, g, st, st', args', xs, hi, hr, h => by
    cases hr with
    | cons h1 h2 =>
      have other : ∀ {bs' : List Bool}, (match thaw st v with
          | some (v, st) => match handOver st bs' vs with
            | some (vs, st) => some (v.plain :: vs, st)
            | none => none
          | none => none) = some (args', st') → ∃ g', To E g w g' st' w ∧ Reps E g' args' _ := fun h => by
        split at h
        · rename_i v1 st1 ht
          obtain ⟨g1, k1, k2⟩ := thaw_ok hE hi h1 ht
          split at h
          · rename_i vs2 st2 ho
            simp only [Option.some.injEq, Prod.mk.injEq] at h
            obtain ⟨rfl, rfl⟩ := h
            obtain ⟨g2, k3, k4⟩ := handOver_ok hE k1.inv (h2.mono k1.le) ho
            exact ⟨g2, k1.trans k3, .cons (k2.mono k3.le).plain k4⟩
          · cases h
        · cases h
      cases bs with
      | nil => exact other (bs' := []) (by simp only [handOver, List.tail] at h; exact h)
      | cons b bs =>
        cases b with
        | true =>
          simp only [handOver] at h
          split at h
          · rename_i vs2 st2 ho
            simp only [Option.some.injEq, Prod.mk.injEq] at h
            obtain ⟨rfl, rfl⟩ := h
            obtain ⟨g2, k3, k4⟩ := handOver_ok hE hi h2 ho
            exact ⟨g2, k3, .cons (h1.mono k3.le) k4⟩
          · cases h
        | false => exact other (bs' := bs) (by simp only [handOver, List.tail] at h; exact h)
theorem handOver_same : ∀ {args : List (V T)} {bs : List Bool} {st st' : List (Ob T)} {args' : List (V T)}, noArr args = true → handOver st bs args = some (args', st') → st' = st
  | [], bs, st, st', args', _, h => by
    cases bs with
    | nil =>
      simp only [handOver, Option.some.injEq, Prod.mk.injEq] at h
      exact h.2.symm
    | cons b bs =>
      cases b <;> simp only [handOver, Option.some.injEq, Prod.mk.injEq] at h <;> exact h.2.symm
  | v :: vs, bs, st, st', args', hn, h => by
    have hv : thaw st v = some (v, st) := by
      cases v <;> first | rfl | (simp [noArr] at hn; done)
    have hn' : noArr vs = true := by
      cases v <;> first | exact hn | (simp [noArr] at hn; done)
    have other : ∀ {bs' : List Bool}, (match thaw st v with
        | some (v, st) => match handOver st bs' vs with
          | some (vs, st) => some (v.plain :: vs, st)
          | none => none
        | none => none) = some (args', st') → st' = st := fun h => by
      rw [hv] at h
      dsimp only at h
      split at h
      · rename_i ho
        simp only [Option.some.injEq, Prod.mk.injEq] at h
        obtain ⟨rfl, rfl⟩ := h
        exact handOver_same hn' ho
      · cases h
    cases bs with
    | nil => exact other (bs' := []) (by simp only [handOver, List.tail] at h; exact h)
    | cons b bs =>
      cases b with
      | true =>
        simp only [handOver] at h
        split at h
        · rename_i ho
          simp only [Option.some.injEq, Prod.mk.injEq] at h
          obtain ⟨rfl, rfl⟩ := h
          exact handOver_same hn' ho
        · cases h
      | false => exact other (bs' := bs) (by simp only [handOver, List.tail] at h; exact h)

/-- A function, called with these, gives that. -/
def CallOk (P : Program) (E : Env T) (f : Nat) (args : List (V T)) (obs : List (Ob T)) (v : V T) (obs' : List (Ob T)) : Prop :=
  ∀ (g : Gh) (w : World) (xs : List Value), Inv E g obs w → Reps E g args xs → Calls P f ⟨xs⟩ w fun e w' => ∃ x g', e = .returned x ∧ Left E g w g' obs' w' ∧ Rep E g' v x

theorem after_spec {st : List (Ob T)} {base : Nat} {ids : List Nat} {v v' : V T} {obs obs' : List (Ob T)} (h : after st base ids v obs = some (v', obs')) :
    v.ren (backTo base ids) (verOf st ids) = some v' ∧ obsAt obs (backTo base ids) (verOf st ids) (List.range obs.length) = some obs' := by
  unfold after at h
  split at h
  · rename_i h1 h2
    simp only [Option.some.injEq, Prod.mk.injEq] at h
    obtain ⟨rfl, rfl⟩ := h
    exact ⟨h1, h2⟩
  · cases h
theorem backTo_get (base n : Nat) (ids : List Nat) (k : Nat) (hk : k < ids.length + n) : backTo base ids k = (ids ++ List.range' base n)[k]? := by
  unfold backTo
  by_cases h : k < ids.length
  · have : ids[k]? = some ids[k] := by simp [h]
    rw [List.getElem?_append_left h, this]
  · rw [List.getElem?_append_right (by omega), List.getElem?_eq_none (l := ids) (by omega)]
    rw [List.getElem?_range' (by omega)]
    simp

/-- Packed objects, and what comes back, at places that are dead. -/
theorem call_back (hi : Inv E g st w) {args args2 : List (V T)} {xs : List Value} {ids : List Nat} {obs obs' obs2 : List (Ob T)} (hr : Reps E g args xs) (hp : pack st 0 args = some (ids, args2, obs)) {f : Nat} {v v' : V T} (hc : CallOk P E f args2 obs v obs')
    {base n : Nat} (hn : obs'.length ≤ ids.length + n) (hb : ∀ k, k < n → st[base + k]? = some .dead) (ha : after st base ids v obs' = some (v', obs2)) :
    Calls P f ⟨xs⟩ w fun e w' => ∃ x g3, e = .returned x ∧ To E g w g3 (putAll (ids ++ List.range' base n) obs2 st) w' ∧ Rep E g3 v' x := by
  obtain ⟨g2, h1, h2, h3, h4, h5, _, h6, h8, _, h7⟩ := pack_ok hi hp hr
  obtain ⟨a1, a2⟩ := after_spec ha
  refine (hc g2 w xs h3 h4).mono fun e w' ⟨x, g2', he, hL, hx⟩ => ?_
  obtain ⟨g3, k1, k2⟩ := back_ok (pos := ids ++ List.range' base n) hi h2 h1 h7 hL (fun k hk => backTo_get base n ids k (by omega)) (fun k i hk => by
      rw [List.getElem?_append_left (List.getElem?_eq_some_iff.1 hk).1]; exact hk)
    (by
      rw [List.nodup_append]
      refine ⟨h5, List.nodup_range', fun i hi1 j hj he => ?_⟩
      subst he
      obtain ⟨o, ho1, ho2⟩ := h8 i hi1
      rw [List.mem_range'] at hj
      obtain ⟨k, hk, rfl⟩ := hj
      rw [Nat.one_mul, hb k hk] at ho1
      cases ho1
      exact ho2 rfl)
    (by simp; omega) (fun i hm => by
      rcases List.mem_append.1 hm with hm | hm
      · obtain ⟨o, ho1, _⟩ := h8 i hm
        exact (List.getElem?_eq_some_iff.1 ho1).1
      · rw [List.mem_range'] at hm
        obtain ⟨k, hk, rfl⟩ := hm
        rw [Nat.one_mul]
        exact (List.getElem?_eq_some_iff.1 (hb k hk)).1)
    (fun k i hk hp' => by
      rw [List.getElem?_append_right hk] at hp'
      have hlt := (List.getElem?_eq_some_iff.1 hp').1
      rw [List.length_range'] at hlt
      rw [List.getElem?_range' (by omega)] at hp'
      simp only [Nat.one_mul, Option.some.injEq] at hp'
      rw [← hp']
      exact hb _ hlt)
    a2 a1 hx
  exact ⟨x, g3, he, k1, k2⟩

theorem verOf_dead (n : Nat) {ids : List Nat} (h : ∀ i ∈ ids, i < st.length) : verOf (st ++ List.replicate n .dead) ids = verOf st ids := by
  funext k
  unfold verOf
  cases hk : ids[k]? with
  | none => rfl
  | some i =>
    dsimp only
    rw [List.getElem?_append_left (h i (List.mem_of_getElem? hk))]
theorem puts_new {α : Type} (d : α) : ∀ (obs : List α) (st : List α), puts (List.range' st.length obs.length) obs (st ++ List.replicate obs.length d) = st ++ obs
  | [], st => by simp [puts]
  | o :: os, st => by
    simp only [List.length_cons, List.range'_succ, puts, List.replicate_succ]
    have : (st ++ d :: List.replicate os.length d).set st.length o = (st ++ [o]) ++ List.replicate os.length d := by
      rw [List.set_append_right _ _ (Nat.le_refl _)]
      simp
    rw [this]
    have := puts_new d os (st ++ [o])
    rw [List.length_append, List.length_singleton] at this
    rw [this]
    simp
theorem puts_split {α : Type} (d : α) : ∀ (ids : List Nat) (obs st : List α), ids.length ≤ obs.length → (∀ i ∈ ids, i < st.length) →
    puts (ids ++ List.range' st.length (obs.length - ids.length)) obs (st ++ List.replicate (obs.length - ids.length) d) = puts ids obs st ++ obs.drop ids.length
  | [], obs, st, _, _ => by simpa [puts] using puts_new d obs st
  | i :: is, [], st, h, _ => by simp at h
  | i :: is, o :: os, st, h, hi => by
    have hlt : i < st.length := hi i (List.mem_cons_self ..)
    simp only [List.length_cons, Nat.add_sub_add_right, List.cons_append, puts, List.drop_succ_cons]
    rw [List.set_append_left _ _ hlt]
    have := puts_split d is os (st.set i o) (by simpa using h) (fun j hj => by rw [List.length_set]; exact hi j (List.mem_cons_of_mem _ hj))
    rw [List.length_set] at this
    exact this
theorem merge_eq {ids : List Nat} {obs : List (Ob T)} (h : ids.length ≤ obs.length) (hi : ∀ i ∈ ids, i < st.length) :
    merge ids obs st = putAll (ids ++ List.range' st.length (obs.length - ids.length)) obs (st ++ List.replicate (obs.length - ids.length) .dead) := by
  rw [putAll_eq, puts_split .dead ids obs st h hi]
  unfold merge
  cases obs with
  | nil =>
    have : ids = [] := List.eq_nil_of_length_eq_zero (by simpa using h)
    subst this
    simp [puts]
  | cons o os => dsimp only; rw [putAll_eq]

theorem ids_lt (hi : Inv E g st w) {M' : List Loc} {ids : List Nat} (h : Picked g.M ids M') : ∀ i ∈ ids, i < st.length := fun i hm => by
  obtain ⟨k, hlt, hk⟩ := List.getElem_of_mem hm
  obtain ⟨l, h1, _⟩ := h.2 k i (by simp [hlt, hk])
  rw [← hi.len]
  exact (List.getElem?_eq_some_iff.1 h1).1
/-- Packed objects, and what comes back, with new objects at the end. -/
theorem call_new (hi : Inv E g st w) {args args2 : List (V T)} {xs : List Value} {ids : List Nat} {obs obs' obs2 : List (Ob T)} (hr : Reps E g args xs) (hp : pack st 0 args = some (ids, args2, obs)) {f : Nat} {v v' : V T} (hc : CallOk P E f args2 obs v obs')
    (ha : after st st.length ids v obs' = some (v', obs2)) :
    Calls P f ⟨xs⟩ w fun e w' => ∃ x g3, e = .returned x ∧ To E g w g3 (merge ids obs2 st) w' ∧ Rep E g3 v' x := by
  obtain ⟨g2, h1, h2, h3, h4, h5, _, h6, h8, _, h7⟩ := pack_ok hi hp hr
  obtain ⟨a1, a2⟩ := after_spec ha
  have hids := ids_lt hi h2
  refine (hc g2 w xs h3 h4).mono fun e w' ⟨x, g2', he, hL, hx⟩ => ?_
  have hge : ids.length ≤ obs'.length := by
    rw [← hL.inv.len, ← h6, ← h3.len]
    refine Nat.le_of_not_lt fun hlt => ?_
    obtain ⟨l', h9, _⟩ := hL.kin g2'.M.length g2.M[g2'.M.length] (by simp [hlt])
    have := (List.getElem?_eq_some_iff.1 h9).1
    omega
  generalize hn : obs'.length - ids.length = n
  obtain ⟨d1, d2, d3⟩ := hi.dead n
  have hP' : Picked (g.M ++ List.replicate n Loc.none) ids g2.M := ⟨h2.1, fun k i hk => by
    obtain ⟨l, h9, h10⟩ := h2.2 k i hk
    exact ⟨l, by rw [List.getElem?_append_left (List.getElem?_eq_some_iff.1 h9).1]; exact h9, h10⟩⟩
  have hown' : ∀ b, g2.owns b → ∃ i l, i ∈ ids ∧ (g.M ++ List.replicate n Loc.none)[i]? = some l ∧ l.block = some b := fun b hb => by
    obtain ⟨i, l, h9, h10, h11⟩ := h7 b hb
    exact ⟨i, l, h9, by rw [List.getElem?_append_left (List.getElem?_eq_some_iff.1 h10).1]; exact h10, h11⟩
  have hol : obs2.length = obs'.length := by
    have := (obsAt_get a2).1
    rwa [List.length_range] at this
  obtain ⟨g3, k1, k2⟩ := back_ok (g := ⟨g.G, g.M ++ List.replicate n .none⟩) (st := st ++ List.replicate n .dead) (f := backTo st.length ids) (pos := ids ++ List.range' st.length n) d1 hP' h1 hown' hL
    (fun k hk => backTo_get st.length n ids k (by omega)) (fun k i hk => by
      rw [List.getElem?_append_left (List.getElem?_eq_some_iff.1 hk).1]; exact hk)
    (by
      rw [List.nodup_append]
      refine ⟨h5, List.nodup_range', fun i hi1 j hj he => ?_⟩
      subst he
      rw [List.mem_range'] at hj
      obtain ⟨k, hk, rfl⟩ := hj
      have := hids _ hi1
      omega)
    (by simp; omega) (fun i hm => by
      rw [List.length_append, List.length_replicate]
      rcases List.mem_append.1 hm with hm | hm
      · have := hids i hm; omega
      · rw [List.mem_range'] at hm
        obtain ⟨k, hk, rfl⟩ := hm
        omega)
    (fun k i hk hp' => by
      rw [List.getElem?_append_right hk] at hp'
      have hlt := (List.getElem?_eq_some_iff.1 hp').1
      rw [List.length_range'] at hlt
      rw [List.getElem?_range' (by omega)] at hp'
      simp only [Nat.one_mul, Option.some.injEq] at hp'
      rw [← hp', List.getElem?_append_right (by omega), List.getElem?_replicate, if_pos (by omega)])
    (by rw [verOf_dead n hids]; exact a2) (by rw [verOf_dead n hids]; exact a1) hx
  refine ⟨x, g3, he, ?_, k2⟩
  rw [merge_eq (by omega) hids, hol, hn]
  exact (To.mk d3 d1 d2).trans k1
end
end Go.Proofs.YtnenfgpjedddoaaGreat.AI
