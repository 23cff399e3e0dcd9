/- Regions whose order is drawn: whatever the order, the end is the same. -/
import Derived.Test.YtnenfgpjedddoaaGreatAILocal
import Derived.Orders
set_option linter.unusedVariables false
set_option linter.unusedSectionVars false
set_option linter.unusedSimpArgs false
namespace Go.Proofs.YtnenfgpjedddoaaGreat.AI
open Go

variable {K : Type} [DecidableEq K] {T : K → Type} {E : Env T} {P : Program}

def Ent (P : Program) (f : Nat) : Prop := ∃ fn, P.funcs[f]? = some fn ∧ fn.body.isSome = true ∧ fn.name ≠ "runtime.NumGoroutine"
/-- The function is there, and does what is said. -/
def Callee (P : Program) (E : Env T) (f : Nat) (args : List (V T)) (obs : List (Ob T)) (v : V T) (obs' : List (Ob T)) : Prop := Ent P f ∧ CallOk P E f args obs v obs'

theorem deads_spec {st : List (Ob T)} : ∀ {n b : Nat}, deads st b n = true ↔ ∀ k, k < n → st[b + k]? = some .dead
  | 0, b => by simp [deads]
  | n + 1, b => by
    unfold deads
    split
    · rename_i h
      rw [deads_spec]
      constructor
      · intro hk k hlt
        cases k with
        | zero => simpa using h
        | succ k => have := hk k (by omega); rwa [show b + (k + 1) = b + 1 + k by omega]
      · intro hk k hlt
        have := hk (k + 1) (by omega)
        rwa [show b + 1 + k = b + (k + 1) by omega]
    · rename_i h
      simp only [Bool.false_eq_true, false_iff]
      intro hk
      have := hk 0 (by omega)
      rw [Nat.add_zero] at this
      exact h this

/-- How an ask is answered where the order is drawn: what was looked at, what was changed. -/
inductive Res (P : Program) (E : Env T) (p : Nat) (st : List (Ob T)) : Ask T → List Nat → List Nat → Option (V T) → List (Ob T) → Prop
  | val (v) : Res P E p st (.val v) [] [] (some v) st
  | need (v) : Res P E p st (.need true v) [] [] (some v) st
  | rd {i f v} (h : (st[i]?).bind f = some (true, v)) : Res P E p st (.rd i f) [i] [] (some v) st
  | wr {i f ob v} (h : (st[i]?).bind f = some (true, ob, v)) : Res P E p st (.wr i f) [i] [i] v (st.set i ob)
  | new {ob mk} (h : deads st p 1 = true) : Res P E p st (.new true ob mk) [p] [p] (some (mk p)) (st.set p ob)
  | call {f args args1 ids args2 obs r obs' v obs2} (h1 : noArr args = true) (h2 : deads st p 4 = true) (h3 : handOver st (E.own f) args = some (args1, st)) (h4 : pack st 0 args1 = some (ids, args2, obs))
      (h5 : Callee P E f args2 obs r obs') (h6 : after st p ids r obs' = some (v, obs2)) (h7 : obs'.length ≤ ids.length + 4) : Res P E p st (.call f args) (ids ++ fresh4 p) (ids ++ fresh4 p) (some v) (putAll (ids ++ fresh4 p) obs2 st)

theorem puts_alike {α : Type} : ∀ (is : List Nat) (os st t : List α) (i : Nat), t.length = st.length → t[i]? = st[i]? → (puts is os t)[i]? = (puts is os st)[i]?
  | [], _, _, _, _, _, h => by simpa [puts] using h
  | _ :: _, [], _, _, _, _, h => by simpa [puts] using h
  | j :: is, o :: os, st, t, i, hl, h => by
    simp only [puts]
    refine puts_alike is os _ _ i (by simp [hl]) ?_
    rw [List.getElem?_set, List.getElem?_set]
    by_cases hji : j = i
    · simp [hji, hl]
    · simp [hji, h]
theorem puts_outside {α : Type} (is : List Nat) (os st : List α) {i : Nat} (h : i ∉ is) : (puts is os st)[i]? = st[i]? :=
  puts_out is os st i fun k _ he => h (List.mem_of_getElem? he)

theorem noArr_hand : ∀ {args : List (V T)} {bs : List Bool} {st t : List (Ob T)} {args' : List (V T)}, noArr args = true → handOver st bs args = some (args', st) → handOver t bs args = some (args', t)
  | [], bs, st, t, args', _, h => by
    cases bs with
    | nil =>
      simp only [handOver, Option.some.injEq, Prod.mk.injEq] at h ⊢
      exact ⟨h.1, trivial⟩
    | cons b bs =>
      cases b <;> simp only [handOver, Option.some.injEq, Prod.mk.injEq] at h ⊢ <;> exact ⟨h.1, trivial⟩
  | v :: vs, bs, st, t, args', hn, h => by
    have hv : ∀ st : List (Ob T), thaw st v = some (v, st) := fun st => by
      cases v <;> first | rfl | (simp [noArr] at hn; done)
    have hn' : noArr vs = true := by
      cases v <;> first | exact hn | (simp [noArr] at hn; done)
    have other : ∀ {bs' : List Bool}, (match handOver st bs' vs with
          | some (vs, st) => some (v.plain :: vs, st)
          | none => none) = some (args', st) → (match handOver t bs' vs with
          | some (vs, st) => some (v.plain :: vs, st)
          | none => none) = some (args', t) := fun h => by
      split at h
      · rename_i vs2 st2 ho
        have hs := handOver_same hn' ho
        subst hs
        simp only [Option.some.injEq, Prod.mk.injEq, and_true] at h
        subst h
        rw [noArr_hand (t := t) hn' ho]
      · cases h
    cases bs with
    | nil =>
      simp only [handOver, List.tail, hv] at h ⊢
      exact other h
    | cons b bs =>
      cases b with
      | true =>
        simp only [handOver] at h ⊢
        split at h
        · rename_i vs2 st2 ho
          have hs := handOver_same hn' ho
          subst hs
          simp only [Option.some.injEq, Prod.mk.injEq, and_true] at h
          subst h
          rw [noArr_hand (t := t) hn' ho]
        · cases h
      | false =>
        simp only [handOver, List.tail, hv] at h ⊢
        exact other h

theorem place_none : ∀ {ids : List Nat} {i : Nat}, place ids i = none → i ∉ ids
  | [], _, _ => by simp
  | j :: js, i, h => by
    unfold place at h
    split at h
    · cases h
    · rename_i hb
      split at h
      · cases h
      · rename_i hp
        have hne : i ≠ j := fun e => by
          subst e
          have := Nat.beq_refl i
          rw [hb] at this; cases this
        simp only [List.mem_cons, not_or]
        exact ⟨hne, place_none hp⟩
mutual
theorem comp_congr {st t : List (Ob T)} {ids : List Nat} (ha : AlikeOn ids st t) : ∀ (v : V T), (vers0 t v).ren (place ids) noH = (vers0 st v).ren (place ids) noH := fun v => by
  cases v with
  | sl e xs o =>
    cases o with
    | tok i ver =>
      cases hp : place ids i with
      | some k =>
        have : t[i]? = st[i]? := ha i (List.mem_of_getElem? (place_get hp))
        simp only [vers0, this]
      | none =>
        have key : ∀ s : List (Ob T), (vers0 s (.sl e xs (.tok i ver))).ren (place ids) noH = some (.sl e xs .no) := fun s => by
          simp only [vers0]
          split
          · split <;> simp [V.ren, Own.ren, hp]
          · simp [V.ren, Own.ren]
        rw [key, key]
    | _ => simp only [vers0]
  | agg cs => simp only [vers0, V.ren]; rw [comps_congr ha cs]
  | fn f a c => simp only [vers0, V.ren]; rw [comps_congr ha a, comps_congr ha c]
  | ifc t' v => simp only [vers0, V.ren]; rw [comp_congr ha v]
  | tup cs => simp only [vers0, V.ren]; rw [comps_congr ha cs]
  | stamp i k => simp only [vers0, V.ren]; rw [comp_congr ha k]
  | _ => simp only [vers0]
theorem comps_congr {st t : List (Ob T)} {ids : List Nat} (ha : AlikeOn ids st t) : ∀ (vs : List (V T)), V.ren.rens (place ids) noH (vers0.vers0s t vs) = V.ren.rens (place ids) noH (vers0.vers0s st vs)
  | [] => by simp only [vers0.vers0s]
  | v :: vs => by
    simp only [vers0.vers0s, V.ren.rens]
    rw [comp_congr ha v, comps_congr ha vs]
end
theorem obsAt_comp {st t : List (Ob T)} {ids : List Nat} (ha : AlikeOn ids st t) : ∀ (is : List Nat), (∀ i ∈ is, i ∈ ids) → obsAt (obs0 t t) (place ids) noH is = obsAt (obs0 st st) (place ids) noH is
  | [], _ => by simp only [obsAt]
  | i :: is, h => by
    simp only [obsAt]
    rw [obsAt_comp ha is fun j hj => h j (List.mem_cons_of_mem _ hj), obs0_get, obs0_get, ha i (h i (List.mem_cons_self ..))]
    cases hst : st[i]? with
    | none => rfl
    | some o =>
      have key : (o.vers0 t).ren (place ids) noH i = (o.vers0 st).ren (place ids) noH i := by
        cases o <;> simp only [Ob.vers0, Ob.ren]
        rename_i b cs
        rw [comps_congr ha cs]
      simp only [Option.map_some]
      cases obsAt (obs0 st st) (place ids) noH is with
      | none => rfl
      | some os =>
        dsimp only
        rw [key]
theorem pack_congr {st t : List (Ob T)} {keep : Nat} {vs vs' : List (V T)} {ids : List Nat} {obs : List (Ob T)} (h : pack st keep vs = some (ids, vs', obs)) (ha : AlikeOn ids st t) : pack t keep vs = some (ids, vs', obs) := by
  unfold pack at h ⊢
  dsimp only at h ⊢
  split at h
  · rename_i vs2 obs2 h1 h2
    simp only [Option.some.injEq, Prod.mk.injEq] at h
    obtain ⟨h3, rfl, rfl⟩ := h
    rw [h3] at h1 h2
    have hc : closure t (V.uses.usess (List.range keep) vs) = ids := by
      rw [closure_congr (st := st) (by rw [h3]; exact ha)]
      exact h3
    rw [hc, comps_congr ha vs, obsAt_comp ha ids fun i hi => hi, h1, h2]
  · cases h
theorem verOf_congr {st t : List (Ob T)} {ids : List Nat} (ha : AlikeOn ids st t) : verOf t ids = verOf st ids := by
  funext k
  unfold verOf
  cases hk : ids[k]? with
  | none => rfl
  | some i =>
    dsimp only
    rw [ha i (List.mem_of_getElem? hk)]

/-- The same answer wherever the rows are alike. -/
theorem Res.move {p : Nat} {st t st' : List (Ob T)} {k : Ask T} {rd wr : List Nat} {v : Option (V T)} (h : Res P E p st k rd wr v st') (hl : t.length = st.length) (ha : AlikeOn rd st t) :
    ∃ t', Res P E p t k rd wr v t' ∧ AlikeOn wr st' t' ∧ (∀ i, i ∉ wr → t'[i]? = t[i]?) ∧ t'.length = t.length := by
  cases h with
  | val v => exact ⟨t, .val v, fun i hi => (by cases hi), fun _ _ => rfl, rfl⟩
  | need v => exact ⟨t, .need v, fun i hi => (by cases hi), fun _ _ => rfl, rfl⟩
  | @rd i f v h => exact ⟨t, .rd (by rw [ha i (List.mem_singleton.2 rfl)]; exact h), fun i hi => (by cases hi), fun _ _ => rfl, rfl⟩
  | @wr i f ob v h =>
    refine ⟨t.set i ob, .wr (by rw [ha i (List.mem_singleton.2 rfl)]; exact h), fun j hj => ?_, fun j hj => ?_, by simp⟩
    · have := List.mem_singleton.1 hj
      subst this
      rw [List.getElem?_set, List.getElem?_set]
      simp [hl]
    · rw [List.getElem?_set_ne (fun e => hj (List.mem_singleton.2 e.symm))]
  | @new ob mk h =>
    refine ⟨t.set p ob, .new ?_, fun j hj => ?_, fun j hj => ?_, by simp⟩
    · rw [deads_spec] at h ⊢
      intro k hk
      have : k = 0 := by omega
      subst this
      have := ha p (List.mem_singleton.2 rfl)
      rw [Nat.add_zero, this]
      exact h 0 (by omega)
    · have := List.mem_singleton.1 hj
      subst this
      rw [List.getElem?_set, List.getElem?_set]
      simp [hl]
    · rw [List.getElem?_set_ne (fun e => hj (List.mem_singleton.2 e.symm))]
  | @call f args args1 ids args2 obs r obs' v obs2 h1 h2 h3 h4 h5 h6 h7 =>
    have hai : AlikeOn ids st t := fun i hi => ha i (List.mem_append_left _ hi)
    refine ⟨putAll (ids ++ fresh4 p) obs2 t, .call h1 ?_ (noArr_hand h1 h3) (pack_congr h4 hai) h5 ?_ h7, fun i hi => ?_, fun i hi => ?_, ?_⟩
    · rw [deads_spec] at h2 ⊢
      intro k hk
      rw [ha (p + k) (List.mem_append_right _ (by simp [fresh4]; omega))]
      exact h2 k hk
    · unfold after at h6 ⊢
      rw [verOf_congr hai]
      exact h6
    · rw [putAll_eq, putAll_eq]
      exact puts_alike _ _ _ _ _ hl (ha i hi)
    · rw [putAll_eq]
      exact puts_outside _ _ _ hi
    · rw [putAll_eq, puts_length]
theorem Res.frame {p : Nat} {st st' : List (Ob T)} {k : Ask T} {rd wr : List Nat} {v : Option (V T)} (h : Res P E p st k rd wr v st') : (∀ i, i ∉ wr → st'[i]? = st[i]?) ∧ st'.length = st.length ∧ ∀ i ∈ wr, i ∈ rd := by
  cases h with
  | val v => exact ⟨fun _ _ => rfl, rfl, fun _ h => h⟩
  | need v => exact ⟨fun _ _ => rfl, rfl, fun _ h => h⟩
  | rd h => exact ⟨fun _ _ => rfl, rfl, fun _ h => by cases h⟩
  | wr h => exact ⟨fun j hj => List.getElem?_set_ne (fun e => hj (List.mem_singleton.2 e.symm)), by simp, fun _ h => h⟩
  | new h => exact ⟨fun j hj => List.getElem?_set_ne (fun e => hj (List.mem_singleton.2 e.symm)), by simp, fun _ h => h⟩
  | call => exact ⟨fun i hi => by rw [putAll_eq]; exact puts_outside _ _ _ hi, by rw [putAll_eq, puts_length], fun _ h => h⟩

/-! ### One operation -/
def putO (fr : Fr T) (d : Option Nat) : Option (V T) → Fr T
  | some v => fr.put d v
  | none => fr.drop d
def RepO (E : Env T) (g : Gh) : Option (V T) → Value → Prop
  | some v, x => Rep E g v x
  | none, x => x = undef
theorem get_putO (fr : Fr T) (d : Option Nat) (v : Option (V T)) (t : Nat) : Fr.get (putO fr d v) t = if d = some t then some (v.getD .und) else Fr.get fr t := by
  have key : ∀ (d : Nat) (u : V T), Fr.get ((d, some u) :: fr) t = if d = t then some u else Fr.get fr t := fun d u => by
    simp only [Fr.get]
    by_cases h : d = t
    · subst h; simp [Nat.beq_refl]
    · have : Nat.beq d t = false := by
        cases hb : Nat.beq d t
        · rfl
        · exact absurd (Nat.eq_of_beq_eq_true hb) h
      simp [this, h]
  cases d with
  | none => cases v <;> simp [putO, Fr.put, Fr.drop]
  | some d => cases v <;> simp [putO, Fr.put, Fr.drop, key]
theorem FrOk.putO {g : Gh} {fr : Fr T} {a : Act} {d : Option Nat} {v : Option (V T)} {x : Value} {n : Nat} (hf : FrOk E g fr a.tmps) (hx : RepO E g v x) (hd : dstOk n d = true) (hn : n ≤ a.tmps.size) :
    FrOk E g (AI.putO fr d v) (a.put d x).tmps := fun t u hu => by
  rw [get_putO] at hu
  cases d with
  | none =>
    simp only [reduceCtorEq, if_false] at hu
    exact hf t u hu
  | some d =>
    have hlt : d < a.tmps.size := Nat.lt_of_lt_of_le (Nat.le_of_ble_eq_true hd) hn
    by_cases h : d = t
    · subst h
      simp only [if_true, Option.some.injEq] at hu
      subst hu
      refine ⟨x, by simp [Act.put, hlt], ?_⟩
      cases v with
      | some v => exact hx
      | none =>
        have : x = undef := hx
        subst this
        exact .und
    · rw [if_neg (by simpa using h)] at hu
      obtain ⟨y, h1, h2⟩ := hf t u hu
      exact ⟨y, by simp [Act.put, Array.getElem?_setIfInBounds_ne h, h1], h2⟩
theorem put_size (a : Act) (d : Option Nat) (x : Value) : (a.put d x).tmps.size = a.tmps.size := by cases d <;> simp [Act.put]
theorem put_defers (a : Act) (d : Option Nat) (x : Value) : (a.put d x).defers = a.defers := by cases d <;> rfl

theorem Res.wp (hE : EnvOk P E) {g : Gh} {st st' : List (Ob T)} {w : World} {fr : Fr T} {a : Act} {o : Oper} {k : Ask T} {p : Nat} {rd wr : List Nat} {v : Option (V T)} (hi : Inv E g st w) (hf : FrOk E g fr a.tmps) (ho : opAct E fr o = some k)
    (hr : Res P E p st k rd wr v st') {R : Act → World → Prop} {Q : Exit → Act → World → Prop} (hK : ∀ g' w' x, To E g w g' st' w' → RepO E g' v x → R (a.put o.dst x) w') : o.wp P a w R Q := by
  have hs := opAct_sound (a := a) o hE hi hf ho
  unfold Oper.wp
  cases hr with
  | val v =>
    obtain ⟨g', w', x, h1, h2, h3⟩ := hs
    rw [h1]; exact hK g' w' x h2 h3
  | need v =>
    obtain ⟨g', w', x, h1, h2, h3⟩ := hs rfl
    rw [h1]; exact hK g' w' x h2 h3
  | @rd i f v h =>
    cases hob : st[i]? with
    | none => simp [hob] at h
    | some ob =>
      simp only [hob, Option.bind_some] at h
      obtain ⟨g', w', x, h1, h2, h3⟩ := hs ob v hob h
      rw [h1]; exact hK g' w' x h2 h3
  | @wr i f ob' v h =>
    cases hob : st[i]? with
    | none => simp [hob] at h
    | some ob =>
      simp only [hob, Option.bind_some] at h
      have := hs ob ob' v hob h
      cases v with
      | some v =>
        obtain ⟨g', w', x, h1, h2, h3⟩ := this
        rw [h1]; exact hK g' w' x h2 h3
      | none =>
        obtain ⟨g', w', h1, h2⟩ := this
        rw [h1]; exact hK g' w' undef h2 rfl
  | @new ob mk h =>
    obtain ⟨g', w', x, h1, h2, h3⟩ := hs rfl p (by have := deads_spec.1 h 0 (by omega); simpa using this)
    rw [h1]; exact hK g' w' x h2 h3
  | @call f args args1 ids args2 obs r obs' v obs2 h1 h2 h3 h4 h5 h6 h7 =>
    obtain ⟨xs, hxs, hent⟩ := hs
    obtain ⟨⟨fn, hfn, hb, hn⟩, hc⟩ := h5
    rw [hent fn hfn hb hn]
    obtain ⟨g1, k1, k2⟩ := handOver_ok hE hi hxs h3
    have hcall := call_back (n := 4) k1.inv k2 h4 hc h7 (deads_spec.1 h2) h6
    simp only [Oper.upon]
    refine hcall.mono fun e w' ⟨x, g3, he, hto, hx⟩ => ?_
    subst he
    exact hK g3 w' x (k1.trans hto) hx
end Go.Proofs.YtnenfgpjedddoaaGreat.AI
