/- Each operation does what the abstract interpreter says: maps. -/
import Derived.Test.YtpgghakjbghagaaAIOps11
set_option linter.unusedVariables false
set_option linter.unusedSectionVars false
set_option linter.unusedSimpArgs false
namespace Go.Proofs.Ytpgghakjbghagaa.AI
open Go

variable {K : Type} [DecidableEq K] {T : K → Type} {E : Env T} {P : Program}
section
variable {g : Gh} {st : List (Ob T)} {w : World} {fr : Fr T} {a : Act} (o : Oper)

theorem run_checkKey' {t : Nat} {p : Value} (b : Bool) (ht : TyOk P E t (E.ty t)) (hk : (E.ty t).keyed = true) (n : Nat) : (Instr.checkKey b (n + 1) t p).run P w = .ok () w := by
  cases hty : E.ty t <;> rw [hty] at ht hk <;> first
    | (cases hk; done)
    | (simp only [Instr.checkKey, Sem.run_bind, run_underlying ht.1, Result.andThen_ok]
       cases p <;> rfl)
theorem run_checkKey {t : Nat} {p : Value} (b : Bool) (ht : TyOk P E t (E.ty t)) (hk : (E.ty t).keyed = true) : (Instr.checkKey b 10000 t p).run P w = .ok () w := run_checkKey' b ht hk 9999
theorem keyed_agg {t : Ty K} (h : t.keyed = true) : t.agg = false := by cases t <;> first | rfl | cases h
/-- Two keys. -/
theorem key_same (hE : EnvOk P E) {e : K} (hk : (E.ty (E.num e)).keyed = true) {d : TypeDesc} (hu : P.underlying (E.num e) = some d) {x y : T e} {p q : Value} {G : Nat → Nat → Option Value}
    (hp : Fcs E G (E.enc e x) [p]) (hq : Fcs E G (E.enc e y) [q]) :
    Instr.sameNow d p q = some (E.eqb e x y) ∧ (E.eqb e x y = true ↔ p = q) ∧ Instr.sameBits 10000 p p = true := by
  obtain ⟨a, b, h1, h2, h3⟩ := hE.key e hk x y
  rw [h1] at hp
  rw [h2] at hq
  have hp' : Fc E G a p := by cases hp with | cons h _ => exact h
  have hq' : Fc E G b q := by cases hq with | cons h _ => exact h
  have ht := hE.ty (E.num e)
  generalize E.eqb e x y = r at h3
  unfold eqLeaf at h3
  cases hty : E.ty (E.num e) <;> rw [hty] at ht hk h3 <;> first
    | (cases hk; done)
    | skip
  · rw [ht.1] at hu
    cases hu
    dsimp only at h3
    split at h3
    · split at h3
      · rename_i hkk
        have := eq_of_beq hkk
        subst this
        simp only [Option.some.injEq] at h3
        subst h3
        cases hp'; cases hq'
        simp [Instr.sameNow, Instr.sameBits]
      · cases h3
    · cases h3
  · rw [ht.1] at hu
    cases hu
    dsimp only at h3
    split at h3
    · simp only [Option.some.injEq] at h3
      subst h3
      cases hp'; cases hq'
      simp [Instr.sameNow, Instr.sameBits]
    · cases h3
  · rw [ht.1] at hu
    cases hu
    dsimp only at h3
    split at h3
    · rename_i s s'
      simp only [Option.some.injEq] at h3
      subst h3
      cases hp'; cases hq'
      refine ⟨by simp only [Instr.sameNow]; rw [byteArray_beq], ?_, by simp [Instr.sameBits]; rw [byteArray_beq]; simp⟩
      rw [beq_iff_eq]
      exact ⟨fun h => by rw [h], fun h => by simpa using h⟩
    · cases h3

theorem Ents.keys {kt et : K} (hk : (E.ty (E.num kt)).keyed = true) : ∀ {ps : List (T kt × T et)} {es : List MapEntry} {bs : List (Value × Nat)}, Ents E g kt et ps es bs → bs = es.map fun e => (e.key, e.born)
  | _, _, _, .nil => rfl
  | _, _, _, .cons _ _ _ _ h => by rw [List.map_cons, ← Ents.keys hk h]
theorem Ents.find (hE : EnvOk P E) {kt et : K} (hk : (E.ty (E.num kt)).keyed = true) {d : TypeDesc} (hu : P.underlying (E.num kt) = some d) {key : T kt} {p : Value} (hp : Fcs E g.G (E.enc kt key) [p]) :
    ∀ {ps : List (T kt × T et)} {es : List MapEntry} {bs : List (Value × Nat)}, Ents E g kt et ps es bs → ∀ i,
      (Instr.findNow d p es i = some none ∧ lookupT kt et E ps key = none ∧ (∀ v, updT kt et E ps key v = ps ++ [(key, v)]) ∧ p ∉ bs.map (·.1)) ∨
      (∃ j e v vcs, es[j]? = some e ∧ e.key = p ∧ Instr.findNow d p es i = some (some (i + j, e.val)) ∧ lookupT kt et E ps key = some v ∧ Fcs E g.G (E.enc et v) vcs ∧ CellsOf E (E.num et) e.val vcs ∧
        ∀ v' x xcs (f : MapEntry → MapEntry), Fcs E g.G (E.enc et v') xcs → CellsOf E (E.num et) x xcs → (f e).key = p → (f e).val = x → (f e).born = e.born → Ents E g kt et (updT kt et E ps key v') (es.modify j f) bs)
  | _, _, _, .nil, i => .inl ⟨rfl, rfl, fun _ => rfl, by simp⟩
  | _, _, _, .cons (p := q) (ps := ps) (e := e) (es := es) (bs := bs) hkc hkc' hvc hvc' h, i => by
    have hag := keyed_agg hk
    have hcs := hkc'
    unfold CellsOf at hcs
    rw [hag] at hcs
    dsimp only at hcs
    subst hcs
    obtain ⟨h1, h2, h3⟩ := key_same hE hk hu hp hkc
    cases hb : E.eqb kt key q.1 with
    | true =>
      right
      have hpe := h2.1 hb
      refine ⟨0, e, q.2, _, rfl, hpe.symm, by simp [Instr.findNow, h1, hb], by simp [lookupT, hb], hvc, hvc', fun v' x xcs f hx hx' f1 f2 f3 => ?_⟩
      have : updT kt et E (q :: ps) key v' = (key, v') :: ps := by simp [updT, hb]
      rw [this]
      rw [List.modify_zero_cons, show ((e.key, e.born) :: bs) = (((f e).key, (f e).born) :: bs) by rw [f1, f3, hpe]]
      refine .cons (kcs := [p]) (vcs := xcs) hp ?_ hx (by rw [f2]; exact hx') h
      unfold CellsOf
      rw [hag, f1]
    | false =>
      have hpe : p ≠ e.key := fun he => by rw [h2.2 he] at hb; cases hb
      rcases Ents.find hE hk hu hp h (i + 1) with ⟨a1, a2, a3, a4⟩ | ⟨j, e', v, vcs, a1, a2, a3, a4, a5, a6, a7⟩
      · left
        refine ⟨by simp [Instr.findNow, h1, hb, a1], by simp [lookupT, hb, a2], fun v => by simp [updT, hb, a3], ?_⟩
        simp only [List.map_cons, List.mem_cons, not_or]
        exact ⟨hpe, a4⟩
      · right
        refine ⟨j + 1, e', v, vcs, by simpa using a1, a2, by simp [Instr.findNow, h1, hb, a3]; omega, by simp [lookupT, hb, a4], a5, a6, fun v' x xcs f hx hx' f1 f2 f3 => ?_⟩
        have : updT kt et E (q :: ps) key v' = q :: updT kt et E ps key v' := by simp [updT, hb]
        rw [this, List.modify_succ_cons]
        exact .cons hkc hkc' hvc hvc' (a7 v' x xcs f hx hx' f1 f2 f3)
theorem Ents.snoc {kt et : K} {key : T kt} {v : T et} {e : MapEntry} {kcs vcs : List Value} (h1 : Fcs E g.G (E.enc kt key) kcs) (h2 : CellsOf E (E.num kt) e.key kcs) (h3 : Fcs E g.G (E.enc et v) vcs) (h4 : CellsOf E (E.num et) e.val vcs) :
    ∀ {ps : List (T kt × T et)} {es : List MapEntry} {bs : List (Value × Nat)}, Ents E g kt et ps es bs → Ents E g kt et (ps ++ [(key, v)]) (es ++ [e]) (bs ++ [(e.key, e.born)])
  | _, _, _, .nil => .cons h1 h2 h3 h4 .nil
  | _, _, _, .cons a b c d h => .cons a b c d (Ents.snoc h1 h2 h3 h4 h)

theorem ofCells_ok {t : Nat} {cs : List (V T)} {v : V T} {vs : List Value} {x : Value} (h : ofCells E t cs = some v) (hc : Fcs E g.G cs vs) (hx : CellsOf E t x vs) : Rep E g v x := by
  unfold ofCells at h
  unfold CellsOf at hx
  cases ha : (E.ty t).agg with
  | true =>
    rw [ha] at h hx
    dsimp only at h hx
    simp only [Option.some.injEq] at h
    subst h; subst hx
    exact .agg hc.reps hc.one
  | false =>
    rw [ha] at h hx
    dsimp only at h hx
    subst hx
    cases hc with
    | cons a b =>
      simp only [List.head?_cons, Option.some.injEq] at h
      subst h
      exact .fc a
theorem keyOf_ok (hE : EnvOk P E) {e : K} {k : V T} {key : T e} {p : Value} (h : keyOf E e k = some key) (hp : Rep E g k p) : (E.ty (E.num e)).keyed = true ∧ Fcs E g.G (E.enc e key) [p] ∧ CellsOf E (E.num e) p [p] := by
  unfold keyOf at h
  split at h
  · rename_i hk
    refine ⟨hk, hE.dec g e _ _ _ h (.cons hp .nil), ?_⟩
    unfold CellsOf
    rw [keyed_agg hk]
  · cases h
theorem elemOf_ok (hE : EnvOk P E) {e : K} {k : V T} {x : T e} {p : Value} (h : elemOf E e k = some x) (hp : Rep E g k p) : Fcs E g.G (E.enc e x) p.cells.toList ∧ CellsOf E (E.num e) p p.cells.toList := by
  unfold elemOf at h
  split at h
  · rename_i hk
    have hfc := hE.dec g e _ _ _ h hp.cells
    refine ⟨hfc, ?_⟩
    unfold valOk at hk
    unfold CellsOf
    cases ha : (E.ty (E.num e)).agg with
    | true =>
      rw [ha] at hk
      cases k <;> first
        | (cases hk; done)
        | (obtain ⟨vs, _, _, rfl⟩ := hp.agg_inv
           rfl)
    | false =>
      rw [ha] at hk
      dsimp only
      cases p with
      | agg ps =>
        cases hp <;> first
          | (cases hk; done)
          | (rename_i hh; cases hh)
      | _ => rfl
  · cases h

section
variable {t i : Nat} {kt et : K} {r : Nat} {es : Array MapEntry} {clock : Nat}
theorem lookup_run (hE : EnvOk P E) (hu : P.underlying t = some (.map (E.num kt) (E.num et))) (hk : (E.ty (E.num kt)).keyed = true) (hh : w.heap[r]? = some (.map es clock)) {p : Value} {d : TypeDesc} (hd : P.underlying (E.num kt) = some d)
    {v : Value} {there : Bool} (ok : Bool) (hf : (∃ j, Instr.findNow d p es.toList 0 = some (some (j, v)) ∧ there = true) ∨ (Instr.findNow d p es.toList 0 = some none ∧ there = false ∧ ∃ inf, P.info? (E.num et) = some inf ∧ inf.zero = some v)) :
    (Instr.lookup t (.map (some r)) p ok).run P w = .ok (if ok = true then .tuple #[v, .bool there] else v) w := by
  have hg := run_getObj (P := P) hh (by simp)
  have hc := fun b => run_checkKey (P := P) (w := w) (p := p) b (hE.ty (E.num kt)) hk
  rcases hf with ⟨j, h1, rfl⟩ | ⟨h1, rfl, inf, h2, h3⟩
  · simp [Instr.lookup, run_underlying hu, hg, hc, Instr.findKey, run_underlying hd, h1]
  · simp [Instr.lookup, run_underlying hu, hg, hc, Instr.findKey, run_underlying hd, h1, zeroValue, typeInfo, h2, h3]
end

theorem lookup_ok (hE : EnvOk P E) {t : Nat} {m x : Operand} {ok : Bool} (hi : Inv E g st w) (hf : FrOk E g fr a.tmps) {k : Ask T} (h : lookupA E fr o t m x ok = some k) (hop : o.op = .lookup t m x ok) :
    SoundAsk P E g st w ((execOp a.eval o).run P w) k := by
  have ht := hE.ty t
  unfold lookupA at h
  split at h
  case h_2 => cases h
  rename_i k0 e0 i kv hty hm hx
  rw [hty] at ht
  simp only [Option.some.injEq] at h
  subst h
  intro ob v hob hl
  obtain ⟨r, bs, hM, hmv⟩ := (evalO_ok hf hm).map_inv
  have hok := hi.obs i _ _ hob hM
  unfold lookK at hl
  split at hl
  case h_2 => cases hl
  rename_i kt et ents
  split at hl
  case h_2 => cases hl
  rename_i key z hck hkey hz
  simp only [Bool.and_eq_true, decide_eq_true_eq] at hck
  obtain ⟨rfl, rfl⟩ := hck
  split at hl
  case h_2 => cases hl
  rename_i v' hv'
  simp only [Option.some.injEq, Prod.mk.injEq, true_and] at hl
  subst hl
  obtain ⟨hk, hp, hp'⟩ := keyOf_ok hE hkey (evalO_ok hf hx)
  obtain ⟨es, clock, hh, hen, _, _, _⟩ := hok
  obtain ⟨d, hd⟩ : ∃ d, P.underlying (E.num kt) = some d := by
    have := hE.ty (E.num kt)
    cases hty : E.ty (E.num kt) <;> rw [hty] at this hk <;> first | (cases hk; done) | exact ⟨_, this.1⟩
  obtain ⟨inf, zx, vs, z1, z2, _, _, _, _, _, _, z3, z4⟩ := zeroT_ok hE g.G hz
  have key : ∀ {u : Value} {there : Bool}, Rep E g v' u → there = (lookupT kt et E ents key).isSome → (Instr.lookup t (.map (some r)) (a.eval x) ok).run P w = .ok (if ok = true then .tuple #[u, .bool there] else u) w →
      Gives E g w ((execOp a.eval o).run P w) st (lookRes ok (lookupT kt et E ents key).isSome v') := fun {u there} h1 h2 h3 => by
    subst h2
    refine .here hi (x := if ok = true then .tuple #[u, .bool (lookupT kt et E ents key).isSome] else u) (by simp [execOp, hop, hmv, h3]) ?_
    cases ok
    · exact h1
    · exact .tup (.cons h1 (.cons (.bool _ _) .nil))
  rcases hen.find hE hk hd hp 0 with ⟨a1, a2, a3, a4⟩ | ⟨j, e, v, vcs, a1, a2, a3, a4, a5, a6, a7⟩
  · rw [a2] at hv'
    refine key (ofCells_ok hv' z3 z4) (there := false) (by rw [a2]; rfl) ?_
    exact lookup_run hE ht.1 hk hh hd ok (.inr ⟨a1, rfl, inf, z1, z2⟩)
  · rw [a4] at hv'
    refine key (ofCells_ok hv' a5 a6) (there := true) (by rw [a4]; rfl) ?_
    exact lookup_run hE ht.1 hk hh hd ok (.inl ⟨_, a3, rfl⟩)

theorem ents_le {g g' : Gh} (hG : g'.G = g.G) {kt et : K} : ∀ {ps : List (T kt × T et)} {es : List MapEntry} {bs : List (Value × Nat)}, Ents E g kt et ps es bs → Ents E g' kt et ps es bs
  | _, _, _, .nil => .nil
  | _, _, _, .cons a b c d h => .cons (by rw [hG]; exact a) b (by rw [hG]; exact c) d (ents_le hG h)
/-- A map that gets new entries, or whose entries change. -/
theorem map_write (hi : Inv E g st w) {i r : Nat} {kt et : K} {ents ents' : List (T kt × T et)} {bs bs' : List (Value × Nat)} {es es' : Array MapEntry} {clock clock' : Nat} (hob : st[i]? = some (.map kt et ents)) (hM : g.M[i]? = some (.map r bs))
    (hh : w.heap[r]? = some (.map es clock)) (hen : Ents E g kt et ents' es'.toList bs') (hsub : ∀ p ∈ bs, p ∈ bs') (hb : ∀ p ∈ bs', p.2 < clock') (h1 : (bs'.map (·.2)).Nodup) (h2 : (bs'.map (·.1)).Nodup) :
    ∃ g', To E g w g' (st.set i (.map kt et ents')) { w with heap := w.heap.setIfInBounds r (.map es' clock') } ∧ g'.M[i]? = some (.map r bs') := by
  have hr : r < w.heap.size := heap_lt hh
  have hnone : ∀ off, g.G r off = none := fun off => by
    cases hg : g.G r off with
    | none => rfl
    | some v =>
      have := hi.froz _ _ _ hg
      simp [World.cell?, hh] at this
  have hstep := hi.step (w' := { w with heap := w.heap.setIfInBounds r (.map es' clock') }) (ob' := .map kt et ents') (l' := .map r bs') (G' := g.G) hob hM ⟨rfl, hsub⟩ (.refl _) (fun b off v hv => by
      by_cases hb : b = r
      · subst hb; rw [hnone] at hv; cases hv
      · have : (w.heap.setIfInBounds r (.map es' clock'))[b]? = w.heap[b]? := Array.getElem?_setIfInBounds_ne (fun e => hb e.symm)
        rw [cell?_block (w := w) this]; exact hi.froz b off v hv)
    rfl rfl rfl (by simp) (fun b _ hne => ⟨Array.getElem?_setIfInBounds_ne (fun e => hne (by rw [e]; rfl)), fun _ => rfl⟩) (fun b hb => .inl hb)
    ⟨es', clock', by show (w.heap.setIfInBounds r (.map es' clock'))[r]? = _; simp [hr], ents_le (g := g) (g' := ⟨g.G, g.M.set i (.map r bs')⟩) rfl hen, hb, h1, h2⟩
  exact ⟨_, ⟨hstep.2.2, hstep.1, hstep.2.1⟩, List.getElem?_set_self (List.getElem?_eq_some_iff.1 hM).1⟩

theorem keyStays {p : Value} (h : Instr.sameBits 10000 p p = true) : (Instr.keyThatStays p p).run P w = .ok p w := by
  simp [Instr.keyThatStays, h]

theorem keyed_desc (hE : EnvOk P E) {e : K} (hk : (E.ty (E.num e)).keyed = true) : ∃ d, P.underlying (E.num e) = some d := by
  have := hE.ty (E.num e)
  cases hty : E.ty (E.num e) <;> rw [hty] at this hk <;> first | (cases hk; done) | exact ⟨_, this.1⟩

theorem mapUpdate_ok (hE : EnvOk P E) {t : Nat} {m x y : Operand} (hi : Inv E g st w) (hf : FrOk E g fr a.tmps) {k : Ask T} (h : mapUpdateA E fr o t m x y = some k) (hop : o.op = .mapUpdate t m x y) :
    SoundAsk P E g st w ((execOp a.eval o).run P w) k := by
  have ht := hE.ty t
  unfold mapUpdateA at h
  split at h
  case h_2 => cases h
  rename_i k0 e0 i kv xv hty hm hx hy
  rw [hty] at ht
  simp only [Option.some.injEq] at h
  subst h
  intro ob ob' v hob hl
  obtain ⟨r, bs, hM, hmv⟩ := (evalO_ok hf hm).map_inv
  have hok := hi.obs i _ _ hob hM
  unfold updK at hl
  split at hl
  case h_2 => cases hl
  rename_i kt et ents
  split at hl
  case h_2 => cases hl
  rename_i key val hck hkey hval
  simp only [Bool.and_eq_true, decide_eq_true_eq] at hck
  obtain ⟨rfl, rfl⟩ := hck
  simp only [Option.some.injEq, Prod.mk.injEq, true_and] at hl
  obtain ⟨rfl, rfl⟩ := hl
  obtain ⟨hk, hp, hp'⟩ := keyOf_ok hE hkey (evalO_ok hf hx)
  obtain ⟨hv, hv'⟩ := elemOf_ok hE hval ((evalO_ok hf hy).coerce _)
  obtain ⟨es, clock, hh, hen, hlt, hn2, hn1⟩ := hok
  obtain ⟨d, hd⟩ := keyed_desc hE hk
  have hg := run_getObj (P := P) hh (by simp)
  have hc := fun b => run_checkKey (P := P) (w := w) (p := a.eval x) b (hE.ty (E.num kt)) hk
  have hsb := (key_same hE hk hd hp hp).2.2
  have hkeys := hen.keys hk
  rcases hen.find hE hk hd hp 0 with ⟨a1, a2, a3, a4⟩ | ⟨j, e, v, vcs, a1, a2, a3, a4, a5, a6, a7⟩
  · rw [a3]
    have hs := run_setObj (P := P) (ob' := .map (es.push { key := a.eval x, val := a.eval y, born := clock }) (clock + 1)) hh (by simp)
    obtain ⟨g', h1, _⟩ := map_write (es' := es.push { key := a.eval x, val := a.eval y, born := clock }) (clock' := clock + 1) (ents' := ents ++ [(key, val)]) (bs' := bs ++ [(a.eval x, clock)]) hi hob hM hh
      (by
        rw [Array.toList_push]
        exact Ents.snoc (e := { key := a.eval x, val := a.eval y, born := clock }) hp hp' hv hv' hen)
      (fun p hp => List.mem_append_left _ hp) (fun p hp => by
        rcases List.mem_append.1 hp with hp | hp
        · have := hlt p hp; omega
        · simp only [List.mem_singleton] at hp; subst hp; simp)
      (by
        rw [List.map_append, List.nodup_append]
        refine ⟨hn2, by simp, ?_⟩
        intro q hq r' hr'
        obtain ⟨p, hp, rfl⟩ := List.mem_map.1 hq
        have := hlt p hp
        simp only [List.map_cons, List.map_nil, List.mem_singleton] at hr'
        omega)
      (by
        rw [List.map_append, List.nodup_append]
        refine ⟨hn1, by simp, ?_⟩
        intro q hq r' hr' he
        simp only [List.map_cons, List.map_nil, List.mem_singleton] at hr'
        subst hr'; subst he
        exact a4 hq)
    refine ⟨g', _, ?_, h1⟩
    simp [execOp, hop, hmv, Instr.mapUpdate, run_underlying ht.1, hg, hc, Instr.findKey, run_underlying hd, a1, hs]
  · have hej : es[j]? = some e := by rw [← Array.getElem?_toList]; exact a1
    have hs := run_setObj (P := P) (ob' := .map (es.modify j fun e => { e with key := a.eval x, val := a.eval y }) clock) hh (by simp)
    have hst := keyStays (P := P) (w := w) hsb
    obtain ⟨g', h1, _⟩ := map_write (es' := es.modify j fun e => { e with key := a.eval x, val := a.eval y }) (clock' := clock) (ents' := updT kt et E ents key val) (bs' := bs) hi hob hM hh
      (by
        rw [Array.toList_modify]
        exact a7 val _ _ _ hv hv' rfl rfl rfl)
      (fun p hp => hp) hlt hn2 hn1
    refine ⟨g', _, ?_, h1⟩
    simp [execOp, hop, hmv, Instr.mapUpdate, run_underlying ht.1, hg, hc, Instr.findKey, run_underlying hd, a3, hej, a2, hst, hs]

theorem mapEntry_ok (hE : EnvOk P E) {t : Nat} {m x : Operand} (hi : Inv E g st w) (hf : FrOk E g fr a.tmps) {k : Ask T} (h : mapEntryA E fr o t m x = some k) (hop : o.op = .mapEntry t m x) :
    SoundAsk P E g st w ((execOp a.eval o).run P w) k := by
  have ht := hE.ty t
  unfold mapEntryA at h
  split at h
  case h_2 => cases h
  rename_i k0 e0 i kv hty hm hx
  rw [hty] at ht
  simp only [Option.some.injEq] at h
  subst h
  intro ob ob' v hob hl
  obtain ⟨r, bs, hM, hmv⟩ := (evalO_ok hf hm).map_inv
  have hok := hi.obs i _ _ hob hM
  unfold entK at hl
  split at hl
  case h_2 => cases hl
  rename_i kt et ents
  split at hl
  case h_2 => cases hl
  rename_i key z hck hkey hz
  simp only [Bool.and_eq_true, decide_eq_true_eq] at hck
  obtain ⟨rfl, rfl⟩ := hck
  split at hl
  case h_2 => cases hl
  rename_i v' hv'
  simp only [Option.some.injEq, Prod.mk.injEq, true_and] at hl
  obtain ⟨rfl, rfl⟩ := hl
  have hxv := evalO_ok hf hx
  obtain ⟨hk, hp, hp'⟩ := keyOf_ok hE hkey hxv
  obtain ⟨es, clock, hh, hen, hlt, hn2, hn1⟩ := hok
  obtain ⟨d, hd⟩ := keyed_desc hE hk
  obtain ⟨inf, zx, vs, z1, z2, _, _, _, _, _, _, z3, z4⟩ := zeroT_ok hE g.G hz
  have hg := run_getObj (P := P) hh (by simp)
  have hc := fun b => run_checkKey (P := P) (w := w) (p := a.eval x) b (hE.ty (E.num kt)) hk
  have hsb := (key_same hE hk hd hp hp).2.2
  have hkeys := hen.keys hk
  dsimp only
  rcases hen.find hE hk hd hp 0 with ⟨a1, a2, a3, a4⟩ | ⟨j, e, v, vcs, a1, a2, a3, a4, a5, a6, a7⟩
  · rw [a2] at hv'
    rw [a2, a3]
    have hs := run_setObj (P := P) (ob' := .map (es.push { key := a.eval x, val := zx, born := clock }) (clock + 1)) hh (by simp)
    obtain ⟨g', h1, h2⟩ := map_write (es' := es.push { key := a.eval x, val := zx, born := clock }) (clock' := clock + 1) (ents' := ents ++ [(key, z)]) (bs' := bs ++ [(a.eval x, clock)]) hi hob hM hh
      (by
        rw [Array.toList_push]
        exact Ents.snoc (e := { key := a.eval x, val := zx, born := clock }) hp hp' z3 z4 hen)
      (fun p hp => List.mem_append_left _ hp) (fun p hp => by
        rcases List.mem_append.1 hp with hp | hp
        · have := hlt p hp; omega
        · simp only [List.mem_singleton] at hp; subst hp; simp)
      (by
        rw [List.map_append, List.nodup_append]
        refine ⟨hn2, by simp, ?_⟩
        intro q hq r' hr'
        obtain ⟨p, hp, rfl⟩ := List.mem_map.1 hq
        have := hlt p hp
        simp only [List.map_cons, List.map_nil, List.mem_singleton] at hr'
        omega)
      (by
        rw [List.map_append, List.nodup_append]
        refine ⟨hn1, by simp, ?_⟩
        intro q hq r' hr' he
        simp only [List.map_cons, List.map_nil, List.mem_singleton] at hr'
        subst hr'; subst he
        exact a4 hq)
    refine ⟨g', _, .tuple #[zx, goInt clock], ?_, h1, ?_⟩
    · simp [execOp, hop, hmv, Instr.mapEntry, run_underlying ht.1, hg, hc, Instr.findKey, run_underlying hd, a1, hs, zeroValue, typeInfo, z1, z2]
    · exact .tup (.cons (ofCells_ok hv' (z3.mono h1.le.G) z4) (.cons (.stamp h2 (hxv.mono h1.le) (by simp)) .nil))
  · have hej : es[j]? = some e := by rw [← Array.getElem?_toList]; exact a1
    rw [a4] at hv'
    rw [a4]
    have hs := run_setObj (P := P) (ob' := .map (es.modify j fun e => { e with key := a.eval x }) clock) hh (by simp)
    have hst := keyStays (P := P) (w := w) hsb
    obtain ⟨g', h1, h2⟩ := map_write (es' := es.modify j fun e => { e with key := a.eval x }) (clock' := clock) (ents' := updT kt et E ents key v) (bs' := bs) hi hob hM hh
      (by
        rw [Array.toList_modify]
        exact a7 v _ _ _ a5 a6 rfl rfl rfl)
      (fun p hp => hp) hlt hn2 hn1
    refine ⟨g', _, .tuple #[e.val, goInt e.born], ?_, h1, ?_⟩
    · simp [execOp, hop, hmv, Instr.mapEntry, run_underlying ht.1, hg, hc, Instr.findKey, run_underlying hd, a3, hej, a2, hst, hs]
    · refine .tup (.cons (ofCells_ok hv' (a5.mono h1.le.G) a6) (.cons (.stamp h2 (hxv.mono h1.le) ?_) .nil))
      rw [hkeys, ← a2]
      exact List.mem_map.2 ⟨e, List.mem_of_getElem? a1, rfl⟩

theorem findIdx_born {es : List MapEntry} {j : Nat} {e : MapEntry} (h : es[j]? = some e) (hn : (es.map (·.born)).Nodup) : es.findIdx? (fun e' => (e'.born : Int) == (e.born : Int)) = some j := by
  induction es generalizing j with
  | nil => simp at h
  | cons e' es ih =>
    rw [List.map_cons, List.nodup_cons] at hn
    cases j with
    | zero =>
      simp only [List.getElem?_cons_zero, Option.some.injEq] at h
      subst h
      simp [List.findIdx?_cons]
    | succ j =>
      simp only [List.getElem?_cons_succ] at h
      have hne : ¬ (e'.born = e.born) := fun he => hn.1 (by rw [he]; exact List.mem_map.2 ⟨e, List.mem_of_getElem? h, rfl⟩)
      have := ih h hn.2
      simp only [List.findIdx?_cons, this]
      have hb : ((e'.born : Int) == (e.born : Int)) = false := by
        rw [beq_eq_false_iff_ne]
        omega
      rw [hb]
      simp
theorem entryStore_ok (hE : EnvOk P E) {t : Nat} {m x y : Operand} (hi : Inv E g st w) (hf : FrOk E g fr a.tmps) {k : Ask T} (h : entryStoreA E fr o t m x y = some k) (hop : o.op = .entryStore t m x y) :
    SoundAsk P E g st w ((execOp a.eval o).run P w) k := by
  have ht := hE.ty t
  unfold entryStoreA at h
  split at h
  case h_2 => cases h
  rename_i k0 e0 i j0 kv xv hty hm hx hy
  rw [hty] at ht
  split at h
  case h_2 => cases h
  rename_i hij
  have hij' := Nat.eq_of_beq_eq_true hij
  subst hij'
  simp only [Option.some.injEq] at h
  subst h
  intro ob ob' v hob hl
  obtain ⟨r, bs, hM, hmv⟩ := (evalO_ok hf hm).map_inv
  have hok := hi.obs i _ _ hob hM
  have hsv := evalO_ok hf hx
  obtain ⟨kx, born, hkx, hmem, hsx⟩ : ∃ kx born, Rep E g kv kx ∧ (kx, born) ∈ bs ∧ a.eval x = .int .i64 born := by
    generalize a.eval x = q at hsv
    cases hsv with
    | fc h => cases h
    | stamp h1 h2 h3 =>
      rw [hM] at h1
      cases h1
      exact ⟨_, _, h2, h3, rfl⟩
  unfold updK at hl
  split at hl
  case h_2 => cases hl
  rename_i kt et ents
  split at hl
  case h_2 => cases hl
  rename_i key val hck hkey hval
  simp only [Bool.and_eq_true, decide_eq_true_eq] at hck
  obtain ⟨rfl, rfl⟩ := hck
  simp only [Option.some.injEq, Prod.mk.injEq, true_and] at hl
  obtain ⟨rfl, rfl⟩ := hl
  obtain ⟨hk, hp, hp'⟩ := keyOf_ok hE hkey hkx
  obtain ⟨hv, hv'⟩ := elemOf_ok hE hval ((evalO_ok hf hy).coerce _)
  obtain ⟨es, clock, hh, hen, hlt, hn2, hn1⟩ := hok
  obtain ⟨d, hd⟩ := keyed_desc hE hk
  have hg := run_getObj (P := P) hh (by simp)
  have hkeys := hen.keys hk
  rcases hen.find hE hk hd hp 0 with ⟨a1, a2, a3, a4⟩ | ⟨j, e, v, vcs, a1, a2, a3, a4, a5, a6, a7⟩
  · exact absurd (List.mem_map.2 ⟨_, hmem, rfl⟩) a4
  · have hborn : e.born = born := by
      have h1 : (e.key, e.born) ∈ bs := by rw [hkeys]; exact List.mem_map.2 ⟨e, List.mem_of_getElem? a1, rfl⟩
      rw [a2] at h1
      have inj : ∀ (l : List (Value × Nat)), (l.map (·.1)).Nodup → ∀ {k : Value} {x y : Nat}, (k, x) ∈ l → (k, y) ∈ l → x = y := by
        intro l
        induction l with
        | nil => intro _ _ _ _ h; cases h
        | cons q l ih =>
          intro hn k x y hx hy
          rw [List.map_cons, List.nodup_cons] at hn
          rcases List.mem_cons.1 hx with hx2 | hx2 <;> rcases List.mem_cons.1 hy with hy2 | hy2
          · rw [← hx2] at hy2; cases hy2; rfl
          · subst hx2; exact absurd (show k ∈ l.map (·.1) from List.mem_map.2 ⟨(k, y), hy2, rfl⟩) hn.1
          · subst hy2; exact absurd (show k ∈ l.map (·.1) from List.mem_map.2 ⟨(k, x), hx2, rfl⟩) hn.1
          · exact ih hn.2 hx2 hy2
      exact inj bs hn1 h1 hmem
    have hs := run_setObj (P := P) (ob' := .map (es.modify j fun e => { e with val := a.eval y }) clock) hh (by simp)
    have hfi : es.findIdx? (fun e' => (e'.born : Int) == (born : Int)) = some j := by
      have := findIdx_born a1 (by rw [hkeys, List.map_map] at hn2; exact hn2)
      rw [hborn] at this
      have h2 := List.findIdx?_toArray (p := fun e' : MapEntry => (e'.born : Int) == (born : Int)) (l := es.toList)
      rw [this] at h2
      simpa using h2
    obtain ⟨g', h1, _⟩ := map_write (es' := es.modify j fun e => { e with val := a.eval y }) (clock' := clock) (ents' := updT kt et E ents key val) (bs' := bs) hi hob hM hh
      (by
        rw [Array.toList_modify]
        exact a7 val _ _ _ hv hv' a2 rfl rfl)
      (fun p hp => hp) hlt hn2 hn1
    refine ⟨g', _, ?_, h1⟩
    simp [execOp, hop, hmv, Instr.entryStore, hg, hsx, asInt, asIntOf, hfi, hs]
end
end Go.Proofs.Ytpgghakjbghagaa.AI
