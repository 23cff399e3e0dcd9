/- What an operation looks at: slots and objects. It does the same wherever these are the same. -/
import Derived.Test.YtnenfgpjedddoaaGreatAIPack
import Derived.Orders
set_option linter.unusedVariables false
set_option linter.unusedSectionVars false
set_option linter.unusedSimpArgs false
namespace Go.Proofs.YtnenfgpjedddoaaGreat.AI
open Go

variable {K : Type} [DecidableEq K] {T : K → Type} {E : Env T} {P : Program}

section
variable {fr fr' : Fr T}
theorem partsV_congr (ft : Nat → Nat) : ∀ (l : List (Nat × Operand)), (∀ p ∈ l, evalO fr p.2 = evalO fr' p.2) → partsV E fr ft l = partsV E fr' ft l
  | [], _ => rfl
  | (i, x) :: l, h => by
    simp only [partsV]
    rw [h (i, x) (List.mem_cons_self ..), partsV_congr ft l fun p hp => h p (List.mem_cons_of_mem _ hp)]
theorem argsV_congr : ∀ (l : List Operand) (ts : List Nat), (∀ x ∈ l, evalO fr x = evalO fr' x) → argsV E fr l ts = argsV E fr' l ts
  | [], _, _ => by simp only [argsV]
  | x :: l, [], h => by
    simp only [argsV]
    rw [h x (List.mem_cons_self ..), argsV_congr l [] fun p hp => h p (List.mem_cons_of_mem _ hp)]
  | x :: l, t :: ts, h => by
    simp only [argsV]
    rw [h x (List.mem_cons_self ..), argsV_congr l ts fun p hp => h p (List.mem_cons_of_mem _ hp)]
theorem evals_congr : ∀ (l : List Operand), (∀ x ∈ l, evalO fr x = evalO fr' x) → evals fr l = evals fr' l
  | [], _ => rfl
  | x :: l, h => by
    simp only [evals]
    rw [h x (List.mem_cons_self ..), evals_congr l fun p hp => h p (List.mem_cons_of_mem _ hp)]
theorem bound_congr (d : Int) (x : Option Operand) (h : ∀ y ∈ x, evalO fr y = evalO fr' y) : bound fr d x = bound fr' d x := by
  cases x with
  | none => rfl
  | some y => simp only [bound]; rw [h y rfl]
theorem opAct_congr (o : Oper) (h : ∀ x ∈ o.op.operands, evalO fr x = evalO fr' x) : opAct E fr o = opAct E fr' o := by
  obtain ⟨dst, op, type, pos, after, guard⟩ := o
  cases op <;> simp only [Op.operands] at h <;> simp only [opAct]
  case build t ps =>
    have : ∀ ft, partsV E fr ft ps.toList = partsV E fr' ft ps.toList := fun ft => partsV_congr ft _ fun p hp => h p.2 (by simp only [List.mem_toArray, List.mem_map]; exact ⟨p, hp, rfl⟩)
    simp only [buildA, this]
  case buildSlice t n ps =>
    have : ∀ ft, partsV E fr ft ps.toList = partsV E fr' ft ps.toList := fun ft => partsV_congr ft _ fun p hp => h p.2 (by simp only [List.mem_toArray, List.mem_map]; exact ⟨p, hp, rfl⟩)
    simp only [buildSliceA, this]
  case makeFunc fn first captured =>
    cases fn <;> simp only
    rw [makeFuncA, makeFuncA, evals_congr first.toList fun x hx => h x (by simp [Array.mem_toList_iff.1 hx]), evals_congr captured.toList fun x hx => h x (by simp [Array.mem_toList_iff.1 hx])]
  case call c =>
    have ha : argsV E fr c.args.toList c.argTypes.toList = argsV E fr' c.args.toList c.argTypes.toList := argsV_congr _ _ fun x hx => h x (by simp [Call.operands, Array.mem_toList_iff.1 hx])
    cases hc : c.callee with
    | value f =>
      have hf : evalO fr f = evalO fr' f := h f (by simp [Call.operands, hc])
      simp only [callA, hc, ha, hf]
    | invoke r m => simp only [callA, hc]
    | builtin b => simp only [callA, hc, ha]
  case makeMap t r =>
    cases r with
    | none => rfl
    | some x => simp only [makeMapA]; rw [h x (by simp)]
  case slice t x lo hi mx =>
    have h1 : bound fr 0 lo = bound fr' 0 lo := bound_congr _ _ fun y hy => h y (by cases lo <;> simp_all)
    have h2 : ∀ d, bound fr d hi = bound fr' d hi := fun d => bound_congr _ _ fun y hy => h y (by cases hi <;> simp_all)
    have h3 : bound fr 0 mx = bound fr' 0 mx := bound_congr _ _ fun y hy => h y (by cases mx <;> simp_all)
    have h4 : evalO fr x = evalO fr' x := h x (by simp)
    cases mx with
    | none =>
      unfold sliceA
      rw [h4]
      cases E.ty t <;> try rfl
      all_goals
        rcases evalO fr' x with _ | v
        · rfl
        · cases v <;> simp only [h1, h2]
    | some m =>
      unfold sliceA
      rw [h4]
      cases E.ty t <;> try rfl
      all_goals
        rcases evalO fr' x with _ | v
        · rfl
        · cases v <;> simp only [h1, h2, h3]
  case next x b =>
    cases b
    · rfl
    · simp only [nextA]; rw [h x (by simp)]
  case move x => simp only [moveA]; rw [h x (by simp)]
  case assign x => simp only [moveA]; rw [h x (by simp)]
  case pick c x y => simp only [pickA]; rw [h c (by simp), h x (by simp), h y (by simp)]
  case box t x => simp only [boxA]; rw [h x (by simp)]
  case load t x => simp only [loadA]; rw [h x (by simp)]
  case store t x y => simp only [storeA]; rw [h x (by simp), h y (by simp)]
  case nilCheck x => simp only [nilCheckA]; rw [h x (by simp)]
  case binOp op t x y u => simp only [binOpA]; rw [h x (by simp), h y (by simp)]
  case unOp op t x => simp only [unOpA]; rw [h x (by simp)]
  case convert s d x => simp only [convertA]; rw [h x (by simp)]
  case makeSlice t l c => simp only [makeSliceA]; rw [h l (by simp), h c (by simp)]
  case fieldAddr t x f => simp only [fieldAddrA]; rw [h x (by simp)]
  case field t x f => simp only [fieldA]; rw [h x (by simp)]
  case indexAddr t x y => simp only [indexAddrA]; rw [h x (by simp), h y (by simp)]
  case index t x y => simp only [indexA]; rw [h x (by simp), h y (by simp)]
  case lookup t x y ok => simp only [lookupA]; rw [h x (by simp), h y (by simp)]
  case mapUpdate t x y z => simp only [mapUpdateA]; rw [h x (by simp), h y (by simp), h z (by simp)]
  case mapEntry t x y => simp only [mapEntryA]; rw [h x (by simp), h y (by simp)]
  case entryStore t x y z => simp only [entryStoreA]; rw [h x (by simp), h y (by simp), h z (by simp)]
  case range t x => simp only [rangeA]; rw [h x (by simp)]
  case extract x j => simp only [extractA]; rw [h x (by simp)]
  case alloc t => rfl
theorem evalO_congr {x : Operand} (h : ∀ t, x = .tmp t → Fr.get fr t = Fr.get fr' t) : evalO fr x = evalO fr' x := by
  cases x with
  | tmp t => exact h t rfl
  | _ => rfl
end

/-! ### Rows that are alike where it matters -/
def AlikeOn (l : List Nat) (st st' : List (Ob T)) : Prop := ∀ i ∈ l, st'[i]? = st[i]?
mutual
theorem vers0_congr {st st' : List (Ob T)} : ∀ (v : V T) (acc : List Nat), AlikeOn (v.uses acc) st st' → vers0 st' v = vers0 st v := fun v acc h => by
  cases v with
  | sl e xs o =>
    cases o with
    | tok i ver =>
      have : st'[i]? = st[i]? := h i (by
        simp only [V.uses]
        unfold addTo
        split
        · exact has_iff.1 ‹_›
        · simp)
      simp only [vers0, this]
    | _ => simp only [vers0]
  | agg cs => simp only [vers0]; rw [vers0s_congr cs acc (by simpa [V.uses] using h)]
  | fn f a c =>
    simp only [vers0]
    simp only [V.uses] at h
    rw [vers0s_congr c _ h, vers0s_congr a acc fun i hi => h i (by
      obtain ⟨l, hl⟩ := V.usess_pre c (V.uses.usess acc a)
      rw [hl]; exact List.mem_append_left _ hi)]
  | ifc t v => simp only [vers0]; rw [vers0_congr v acc (by simpa [V.uses] using h)]
  | tup cs => simp only [vers0]; rw [vers0s_congr cs acc (by simpa [V.uses] using h)]
  | stamp i k => simp only [vers0]; rw [vers0_congr k (addTo acc i) (by simpa [V.uses] using h)]
  | _ => simp only [vers0]
theorem vers0s_congr {st st' : List (Ob T)} : ∀ (vs : List (V T)) (acc : List Nat), AlikeOn (V.uses.usess acc vs) st st' → vers0.vers0s st' vs = vers0.vers0s st vs
  | [], _, _ => by simp only [vers0.vers0s]
  | v :: vs, acc, h => by
    simp only [V.uses.usess] at h
    simp only [vers0.vers0s]
    rw [vers0s_congr vs _ h, vers0_congr v acc fun i hi => h i (by
      obtain ⟨l, hl⟩ := V.usess_pre vs (v.uses acc)
      rw [hl]; exact List.mem_append_left _ hi)]
end
theorem addTo_sub {acc R : List Nat} {i : Nat} (h : ∀ j ∈ addTo acc i, j ∈ R) : (∀ j ∈ acc, j ∈ R) ∧ i ∈ R := by
  obtain ⟨l, hl⟩ := addTo_pre acc i
  refine ⟨fun j hj => h j (by rw [hl]; exact List.mem_append_left _ hj), h i ?_⟩
  unfold addTo
  split
  · exact has_iff.1 ‹_›
  · simp
/-- The walk through the objects finds the same ones. -/
theorem reach_congr {st st' : List (Ob T)} : ∀ (n : Nat) (todo acc : List Nat), (∀ i ∈ todo, i ∈ reach st n todo acc) → AlikeOn (reach st n todo acc) st st' → reach st' n todo acc = reach st n todo acc
  | 0, _, _, _, _ => by simp only [reach]
  | n + 1, [], acc, _, _ => by simp only [reach]
  | n + 1, i :: todo, acc, ht, h => by
    have hi := h i (ht i (List.mem_cons_self ..))
    simp only [reach] at ht h ⊢
    rw [hi]
    cases hst : st[i]? with
    | none =>
      rw [hst] at ht h
      dsimp only at ht h ⊢
      exact reach_congr n _ _ (fun j hj => ht j (List.mem_cons_of_mem _ hj)) h
    | some ob =>
      rw [hst] at ht h
      dsimp only at ht h ⊢
      refine reach_congr n _ _ (fun j hj => ?_) h
      rcases List.mem_append.1 hj with hj | hj
      · exact ht j (List.mem_cons_of_mem _ hj)
      · obtain ⟨l, hl⟩ := reach_pre (st := st) n (todo ++ (ob.uses acc).drop acc.length) (ob.uses acc)
        rw [hl]
        exact List.mem_append_left _ (List.mem_of_mem_drop hj)
theorem closure_pre (st : List (Ob T)) (acc : List Nat) : ∃ l, closure st acc = acc ++ l := reach_pre _ _ _
theorem closure_congr {st st' : List (Ob T)} {acc : List Nat} (h : AlikeOn (closure st acc) st st') : closure st' acc = closure st acc :=
  reach_congr _ _ _ (fun i hi => by
    obtain ⟨l, hl⟩ := closure_pre st acc
    show i ∈ closure st acc
    rw [hl]; exact List.mem_append_left _ hi) h
theorem obsAt_congr {f : Nat → Option Nat} {h : Nat → Nat} {st st' : List (Ob T)} : ∀ {ids : List Nat}, AlikeOn ids st st' → obsAt st' f h ids = obsAt st f h ids
  | [], _ => rfl
  | i :: is, ha => by
    simp only [obsAt]
    rw [ha i (List.mem_cons_self ..), obsAt_congr fun j hj => ha j (List.mem_cons_of_mem _ hj)]
end Go.Proofs.YtnenfgpjedddoaaGreat.AI

/- Regions whose order is drawn: whatever the order, the end is the same. -/
set_option linter.unusedVariables false
set_option linter.unusedSectionVars false
set_option linter.unusedSimpArgs false
namespace Go.Proofs.YtnenfgpjedddoaaGreat.AI
open Go

variable {K : Type} [DecidableEq K] {T : K → Type} {E : Env T} {P : Program}

def Ent (P : Program) (f : Nat) : Prop := ∃ fn, P.funcs[f]? = some fn ∧ fn.body.isSome = true ∧ fn.name ≠ "runtime.NumGoroutine"
/-- The function is there, and does what is said. -/
def Callee (P : Program) (E : Env T) (f : Nat) (args : List (V T)) (obs : List (Ob T)) (v : V T) (obs' : List (Ob T)) : Prop := Ent P f ∧ CallOk P E f args obs v obs'

theorem deads_spec {st : List (Ob T)} : ∀ {n b : Nat}, deads st b n = true ↔ ∀ k, k < n → st[b + k]? = some .dead
  | 0, b => by simp [deads]
  | n + 1, b => by
    unfold deads
    split
    · rename_i h
      rw [deads_spec]
      constructor
      · intro hk k hlt
        cases k with
        | zero => simpa using h
        | succ k => have := hk k (by omega); rwa [show b + (k + 1) = b + 1 + k by omega]
      · intro hk k hlt
        have := hk (k + 1) (by omega)
        rwa [show b + 1 + k = b + (k + 1) by omega]
    · rename_i h
      simp only [Bool.false_eq_true, false_iff]
      intro hk
      have := hk 0 (by omega)
      rw [Nat.add_zero] at this
      exact h this

/-- How an ask is answered where the order is drawn: what was looked at, what was changed. -/
inductive Res (P : Program) (E : Env T) (p : Nat) (st : List (Ob T)) : Ask T → List Nat → List Nat → Option (V T) → List (Ob T) → Prop
  | val (v) : Res P E p st (.val v) [] [] (some v) st
  | need (v) : Res P E p st (.need true v) [] [] (some v) st
  | rd {i f v} (h : (st[i]?).bind f = some (true, v)) : Res P E p st (.rd i f) [i] [] (some v) st
  | wr {i f ob v} (h : (st[i]?).bind f = some (true, ob, v)) : Res P E p st (.wr i f) [i] [i] v (st.set i ob)
  | new {ob mk} (h : deads st p 1 = true) : Res P E p st (.new true ob mk) [p] [p] (some (mk p)) (st.set p ob)
  | call {f args args1 ids args2 obs r obs' v obs2} (h1 : noArr args = true) (h2 : deads st p 4 = true) (h3 : handOver st (E.own f) args = some (args1, st)) (h4 : pack st 0 args1 = some (ids, args2, obs))
      (h5 : Callee P E f args2 obs r obs') (h6 : after st p ids r obs' = some (v, obs2)) (h7 : obs'.length ≤ ids.length + 4) : Res P E p st (.call f args) (ids ++ fresh4 p) (ids ++ fresh4 p) (some v) (putAll (ids ++ fresh4 p) obs2 st)

theorem puts_alike {α : Type} : ∀ (is : List Nat) (os st t : List α) (i : Nat), t.length = st.length → t[i]? = st[i]? → (puts is os t)[i]? = (puts is os st)[i]?
  | [], _, _, _, _, _, h => by simpa [puts] using h
  | _ :: _, [], _, _, _, _, h => by simpa [puts] using h
  | j :: is, o :: os, st, t, i, hl, h => by
    simp only [puts]
    refine puts_alike is os _ _ i (by simp [hl]) ?_
    rw [List.getElem?_set, List.getElem?_set]
    by_cases hji : j = i
    · simp [hji, hl]
    · simp [hji, h]
theorem puts_outside {α : Type} (is : List Nat) (os st : List α) {i : Nat} (h : i ∉ is) : (puts is os st)[i]? = st[i]? :=
  puts_out is os st i fun k _ he => h (List.mem_of_getElem? he)

theorem noArr_hand : ∀ {args : List (V T)} {bs : List Bool} {st t : List (Ob T)} {args' : List (V T)}, noArr args = true → handOver st bs args = some (args', st) → handOver t bs args = some (args', t)
  | [], bs, st, t, args', _, h => by
    cases bs with
    | nil =>
      simp only [handOver, Option.some.injEq, Prod.mk.injEq] at h ⊢
      exact ⟨h.1, trivial⟩
    | cons b bs =>
      cases b <;> simp only [handOver, Option.some.injEq, Prod.mk.injEq] at h ⊢ <;> exact ⟨h.1, trivial⟩
  | v :: vs, bs, st, t, args', hn, h => by
    have hv : ∀ st : List (Ob T), thaw st v = some (v, st) := fun st => by
      cases v <;> first | rfl | (simp [noArr] at hn; done)
    have hn' : noArr vs = true := by
      cases v <;> first | exact hn | (simp [noArr] at hn; done)
    have other : ∀ {bs' : List Bool}, (match handOver st bs' vs with
          | some (vs, st) => some (v.plain :: vs, st)
          | none => none) = some (args', st) → (match handOver t bs' vs with
          | some (vs, st) => some (v.plain :: vs, st)
          | none => none) = some (args', t) := fun h => by
      split at h
      · rename_i vs2 st2 ho
        have hs := handOver_same hn' ho
        subst hs
        simp only [Option.some.injEq, Prod.mk.injEq, and_true] at h
        subst h
        rw [noArr_hand (t := t) hn' ho]
      · cases h
    cases bs with
    | nil =>
      simp only [handOver, List.tail, hv] at h ⊢
      exact other h
    | cons b bs =>
      cases b with
      | true =>
        simp only [handOver] at h ⊢
        split at h
        · rename_i vs2 st2 ho
          have hs := handOver_same hn' ho
          subst hs
          simp only [Option.some.injEq, Prod.mk.injEq, and_true] at h
          subst h
          rw [noArr_hand (t := t) hn' ho]
        · cases h
      | false =>
        simp only [handOver, List.tail, hv] at h ⊢
        exact other h

theorem place_none : ∀ {ids : List Nat} {i : Nat}, place ids i = none → i ∉ ids
  | [], _, _ => by simp
  | j :: js, i, h => by
    unfold place at h
    split at h
    · cases h
    · rename_i hb
      split at h
      · cases h
      · rename_i hp
        have hne : i ≠ j := fun e => by
          subst e
          have := Nat.beq_refl i
          rw [hb] at this; cases this
        simp only [List.mem_cons, not_or]
        exact ⟨hne, place_none hp⟩
mutual
theorem comp_congr {st t : List (Ob T)} {ids : List Nat} (ha : AlikeOn ids st t) : ∀ (v : V T), (vers0 t v).ren (place ids) noH = (vers0 st v).ren (place ids) noH := fun v => by
  cases v with
  | sl e xs o =>
    cases o with
    | tok i ver =>
      cases hp : place ids i with
      | some k =>
        have : t[i]? = st[i]? := ha i (List.mem_of_getElem? (place_get hp))
        simp only [vers0, this]
      | none =>
        have key : ∀ s : List (Ob T), (vers0 s (.sl e xs (.tok i ver))).ren (place ids) noH = some (.sl e xs .no) := fun s => by
          simp only [vers0]
          split
          · split <;> simp [V.ren, Own.ren, hp]
          · simp [V.ren, Own.ren]
        rw [key, key]
    | _ => simp only [vers0]
  | agg cs => simp only [vers0, V.ren]; rw [comps_congr ha cs]
  | fn f a c => simp only [vers0, V.ren]; rw [comps_congr ha a, comps_congr ha c]
  | ifc t' v => simp only [vers0, V.ren]; rw [comp_congr ha v]
  | tup cs => simp only [vers0, V.ren]; rw [comps_congr ha cs]
  | stamp i k => simp only [vers0, V.ren]; rw [comp_congr ha k]
  | _ => simp only [vers0]
theorem comps_congr {st t : List (Ob T)} {ids : List Nat} (ha : AlikeOn ids st t) : ∀ (vs : List (V T)), V.ren.rens (place ids) noH (vers0.vers0s t vs) = V.ren.rens (place ids) noH (vers0.vers0s st vs)
  | [] => by simp only [vers0.vers0s]
  | v :: vs => by
    simp only [vers0.vers0s, V.ren.rens]
    rw [comp_congr ha v, comps_congr ha vs]
end
theorem obsAt_comp {st t : List (Ob T)} {ids : List Nat} (ha : AlikeOn ids st t) : ∀ (is : List Nat), (∀ i ∈ is, i ∈ ids) → obsAt (obs0 t t) (place ids) noH is = obsAt (obs0 st st) (place ids) noH is
  | [], _ => by simp only [obsAt]
  | i :: is, h => by
    simp only [obsAt]
    rw [obsAt_comp ha is fun j hj => h j (List.mem_cons_of_mem _ hj), obs0_get, obs0_get, ha i (h i (List.mem_cons_self ..))]
    cases hst : st[i]? with
    | none => rfl
    | some o =>
      have key : (o.vers0 t).ren (place ids) noH i = (o.vers0 st).ren (place ids) noH i := by
        cases o <;> simp only [Ob.vers0, Ob.ren]
        rename_i b cs
        rw [comps_congr ha cs]
      simp only [Option.map_some]
      cases obsAt (obs0 st st) (place ids) noH is with
      | none => rfl
      | some os =>
        dsimp only
        rw [key]
theorem pack_congr {st t : List (Ob T)} {keep : Nat} {vs vs' : List (V T)} {ids : List Nat} {obs : List (Ob T)} (h : pack st keep vs = some (ids, vs', obs)) (ha : AlikeOn ids st t) : pack t keep vs = some (ids, vs', obs) := by
  unfold pack at h ⊢
  dsimp only at h ⊢
  split at h
  · rename_i vs2 obs2 h1 h2
    simp only [Option.some.injEq, Prod.mk.injEq] at h
    obtain ⟨h3, rfl, rfl⟩ := h
    rw [h3] at h1 h2
    have hc : closure t (V.uses.usess (List.range keep) vs) = ids := by
      rw [closure_congr (st := st) (by rw [h3]; exact ha)]
      exact h3
    rw [hc, comps_congr ha vs, obsAt_comp ha ids fun i hi => hi, h1, h2]
  · cases h
theorem verOf_congr {st t : List (Ob T)} {ids : List Nat} (ha : AlikeOn ids st t) : verOf t ids = verOf st ids := by
  funext k
  unfold verOf
  cases hk : ids[k]? with
  | none => rfl
  | some i =>
    dsimp only
    rw [ha i (List.mem_of_getElem? hk)]

/-- The same answer wherever the rows are alike. -/
theorem Res.move {p : Nat} {st t st' : List (Ob T)} {k : Ask T} {rd wr : List Nat} {v : Option (V T)} (h : Res P E p st k rd wr v st') (hl : t.length = st.length) (ha : AlikeOn rd st t) :
    ∃ t', Res P E p t k rd wr v t' ∧ AlikeOn wr st' t' ∧ (∀ i, i ∉ wr → t'[i]? = t[i]?) ∧ t'.length = t.length := by
  cases h with
  | val v => exact ⟨t, .val v, fun i hi => (by cases hi), fun _ _ => rfl, rfl⟩
  | need v => exact ⟨t, .need v, fun i hi => (by cases hi), fun _ _ => rfl, rfl⟩
  | @rd i f v h => exact ⟨t, .rd (by rw [ha i (List.mem_singleton.2 rfl)]; exact h), fun i hi => (by cases hi), fun _ _ => rfl, rfl⟩
  | @wr i f ob v h =>
    refine ⟨t.set i ob, .wr (by rw [ha i (List.mem_singleton.2 rfl)]; exact h), fun j hj => ?_, fun j hj => ?_, by simp⟩
    · have := List.mem_singleton.1 hj
      subst this
      rw [List.getElem?_set, List.getElem?_set]
      simp [hl]
    · rw [List.getElem?_set_ne (fun e => hj (List.mem_singleton.2 e.symm))]
  | @new ob mk h =>
    refine ⟨t.set p ob, .new ?_, fun j hj => ?_, fun j hj => ?_, by simp⟩
    · rw [deads_spec] at h ⊢
      intro k hk
      have : k = 0 := by omega
      subst this
      have := ha p (List.mem_singleton.2 rfl)
      rw [Nat.add_zero, this]
      exact h 0 (by omega)
    · have := List.mem_singleton.1 hj
      subst this
      rw [List.getElem?_set, List.getElem?_set]
      simp [hl]
    · rw [List.getElem?_set_ne (fun e => hj (List.mem_singleton.2 e.symm))]
  | @call f args args1 ids args2 obs r obs' v obs2 h1 h2 h3 h4 h5 h6 h7 =>
    have hai : AlikeOn ids st t := fun i hi => ha i (List.mem_append_left _ hi)
    refine ⟨putAll (ids ++ fresh4 p) obs2 t, .call h1 ?_ (noArr_hand h1 h3) (pack_congr h4 hai) h5 ?_ h7, fun i hi => ?_, fun i hi => ?_, ?_⟩
    · rw [deads_spec] at h2 ⊢
      intro k hk
      rw [ha (p + k) (List.mem_append_right _ (by simp [fresh4]; omega))]
      exact h2 k hk
    · unfold after at h6 ⊢
      rw [verOf_congr hai]
      exact h6
    · rw [putAll_eq, putAll_eq]
      exact puts_alike _ _ _ _ _ hl (ha i hi)
    · rw [putAll_eq]
      exact puts_outside _ _ _ hi
    · rw [putAll_eq, puts_length]
theorem Res.frame {p : Nat} {st st' : List (Ob T)} {k : Ask T} {rd wr : List Nat} {v : Option (V T)} (h : Res P E p st k rd wr v st') : (∀ i, i ∉ wr → st'[i]? = st[i]?) ∧ st'.length = st.length ∧ ∀ i ∈ wr, i ∈ rd := by
  cases h with
  | val v => exact ⟨fun _ _ => rfl, rfl, fun _ h => h⟩
  | need v => exact ⟨fun _ _ => rfl, rfl, fun _ h => h⟩
  | rd h => exact ⟨fun _ _ => rfl, rfl, fun _ h => by cases h⟩
  | wr h => exact ⟨fun j hj => List.getElem?_set_ne (fun e => hj (List.mem_singleton.2 e.symm)), by simp, fun _ h => h⟩
  | new h => exact ⟨fun j hj => List.getElem?_set_ne (fun e => hj (List.mem_singleton.2 e.symm)), by simp, fun _ h => h⟩
  | call => exact ⟨fun i hi => by rw [putAll_eq]; exact puts_outside _ _ _ hi, by rw [putAll_eq, puts_length], fun _ h => h⟩

/-! ### One operation -/
def putO (fr : Fr T) (d : Option Nat) : Option (V T) → Fr T
  | some v => fr.put d v
  | none => fr.drop d
def RepO (E : Env T) (g : Gh) : Option (V T) → Value → Prop
  | some v, x => Rep E g v x
  | none, x => x = undef
theorem get_putO (fr : Fr T) (d : Option Nat) (v : Option (V T)) (t : Nat) : Fr.get (putO fr d v) t = if d = some t then some (v.getD .und) else Fr.get fr t := by
  have key : ∀ (d : Nat) (u : V T), Fr.get ((d, some u) :: fr) t = if d = t then some u else Fr.get fr t := fun d u => by
    simp only [Fr.get]
    by_cases h : d = t
    · subst h; simp [Nat.beq_refl]
    · have : Nat.beq d t = false := by
        cases hb : Nat.beq d t
        · rfl
        · exact absurd (Nat.eq_of_beq_eq_true hb) h
      simp [this, h]
  cases d with
  | none => cases v <;> simp [putO, Fr.put, Fr.drop]
  | some d => cases v <;> simp [putO, Fr.put, Fr.drop, key]
theorem FrOk.putO {g : Gh} {fr : Fr T} {a : Act} {d : Option Nat} {v : Option (V T)} {x : Value} {n : Nat} (hf : FrOk E g fr a.tmps) (hx : RepO E g v x) (hd : dstOk n d = true) (hn : n ≤ a.tmps.size) :
    FrOk E g (AI.putO fr d v) (a.put d x).tmps := fun t u hu => by
  rw [get_putO] at hu
  cases d with
  | none =>
    simp only [reduceCtorEq, if_false] at hu
    exact hf t u hu
  | some d =>
    have hlt : d < a.tmps.size := Nat.lt_of_lt_of_le (Nat.le_of_ble_eq_true hd) hn
    by_cases h : d = t
    · subst h
      simp only [if_true, Option.some.injEq] at hu
      subst hu
      refine ⟨x, by simp [Act.put, hlt], ?_⟩
      cases v with
      | some v => exact hx
      | none =>
        have : x = undef := hx
        subst this
        exact .und
    · rw [if_neg (by simpa using h)] at hu
      obtain ⟨y, h1, h2⟩ := hf t u hu
      exact ⟨y, by simp [Act.put, Array.getElem?_setIfInBounds_ne h, h1], h2⟩
theorem put_size (a : Act) (d : Option Nat) (x : Value) : (a.put d x).tmps.size = a.tmps.size := by cases d <;> simp [Act.put]
theorem put_defers (a : Act) (d : Option Nat) (x : Value) : (a.put d x).defers = a.defers := by cases d <;> rfl

theorem Res.wp (hE : EnvOk P E) {g : Gh} {st st' : List (Ob T)} {w : World} {fr : Fr T} {a : Act} {o : Oper} {k : Ask T} {p : Nat} {rd wr : List Nat} {v : Option (V T)} (hi : Inv E g st w) (hf : FrOk E g fr a.tmps) (ho : opAct E fr o = some k)
    (hr : Res P E p st k rd wr v st') {R : Act → World → Prop} {Q : Exit → Act → World → Prop} (hK : ∀ g' w' x, To E g w g' st' w' → RepO E g' v x → R (a.put o.dst x) w') : o.wp P a w R Q := by
  have hs := opAct_sound (a := a) o hE hi hf ho
  unfold Oper.wp
  cases hr with
  | val v =>
    obtain ⟨g', w', x, h1, h2, h3⟩ := hs
    rw [h1]; exact hK g' w' x h2 h3
  | need v =>
    obtain ⟨g', w', x, h1, h2, h3⟩ := hs rfl
    rw [h1]; exact hK g' w' x h2 h3
  | @rd i f v h =>
    cases hob : st[i]? with
    | none => simp [hob] at h
    | some ob =>
      simp only [hob, Option.bind_some] at h
      obtain ⟨g', w', x, h1, h2, h3⟩ := hs ob v hob h
      rw [h1]; exact hK g' w' x h2 h3
  | @wr i f ob' v h =>
    cases hob : st[i]? with
    | none => simp [hob] at h
    | some ob =>
      simp only [hob, Option.bind_some] at h
      have := hs ob ob' v hob h
      cases v with
      | some v =>
        obtain ⟨g', w', x, h1, h2, h3⟩ := this
        rw [h1]; exact hK g' w' x h2 h3
      | none =>
        obtain ⟨g', w', h1, h2⟩ := this
        rw [h1]; exact hK g' w' undef h2 rfl
  | @new ob mk h =>
    obtain ⟨g', w', x, h1, h2, h3⟩ := hs rfl p (by have := deads_spec.1 h 0 (by omega); simpa using this)
    rw [h1]; exact hK g' w' x h2 h3
  | @call f args args1 ids args2 obs r obs' v obs2 h1 h2 h3 h4 h5 h6 h7 =>
    obtain ⟨xs, hxs, hent⟩ := hs
    obtain ⟨⟨fn, hfn, hb, hn⟩, hc⟩ := h5
    rw [hent fn hfn hb hn]
    obtain ⟨g1, k1, k2⟩ := handOver_ok hE hi hxs h3
    have hcall := call_back (n := 4) k1.inv k2 h4 hc h7 (deads_spec.1 h2) h6
    simp only [Oper.upon]
    refine hcall.mono fun e w' ⟨x, g3, he, hto, hx⟩ => ?_
    subst he
    exact hK g3 w' x (k1.trans hto) hx
end Go.Proofs.YtnenfgpjedddoaaGreat.AI

/- Regions whose order is drawn: operations change places; any order does. -/
set_option linter.unusedVariables false
set_option linter.unusedSectionVars false
set_option linter.unusedSimpArgs false
namespace Go.Proofs.YtnenfgpjedddoaaGreat.AI
open Go

variable {K : Type} [DecidableEq K] {T : K → Type} {E : Env T} {P : Program}

/-- What the guard says. -/
def GNo (all : Array Oper) (o : Oper) (fr : Fr T) : Prop := ∃ j want d, o.guard = some (j, want) ∧ (all[j]?).bind (·.dst) = some d ∧ (Fr.get fr d = some (.bool !want) ∨ Fr.get fr d = some .und)
def GYes (all : Array Oper) (o : Oper) (fr : Fr T) : Prop := o.guard = none ∨ ∃ j want d, o.guard = some (j, want) ∧ (all[j]?).bind (·.dst) = some d ∧ Fr.get fr d = some (.bool want)
/-- An operation: what it gives, what it looks at, what it changes. -/
def Does (P : Program) (E : Env T) (all : Array Oper) (p : Nat) (fr : Fr T) (st : List (Ob T)) (o : Oper) (v : Option (V T)) (rd wr : List Nat) (st' : List (Ob T)) : Prop :=
  (GNo all o fr ∧ v = none ∧ rd = [] ∧ wr = [] ∧ st' = st) ∨ (GYes all o fr ∧ ∃ k, opAct E fr o = some k ∧ Res P E p st k rd wr v st')

theorem looks_guard {all : Array Oper} {o : Oper} {j d : Nat} {want : Bool} (hg : o.guard = some (j, want)) (hd : (all[j]?).bind (·.dst) = some d) : d ∈ o.looksAt all := by
  unfold Oper.looksAt
  rw [hg]
  simp [hd]
theorem looks_op {all : Array Oper} {o : Oper} {t : Nat} (h : Operand.tmp t ∈ o.op.operands) : t ∈ o.looksAt all := by
  unfold Oper.looksAt
  exact List.mem_append_left _ (List.mem_filterMap.2 ⟨.tmp t, by simpa using h, rfl⟩)
theorem Does.move {all : Array Oper} {p : Nat} {fr fr' : Fr T} {st t st' : List (Ob T)} {o : Oper} {v : Option (V T)} {rd wr : List Nat} (h : Does P E all p fr st o v rd wr st') (hf : ∀ x ∈ o.looksAt all, Fr.get fr' x = Fr.get fr x)
    (hl : t.length = st.length) (ha : AlikeOn rd st t) : ∃ t', Does P E all p fr' t o v rd wr t' ∧ AlikeOn wr st' t' ∧ (∀ i, i ∉ wr → t'[i]? = t[i]?) ∧ t'.length = t.length := by
  rcases h with ⟨⟨j, want, d, hg, hd, hv⟩, rfl, rfl, rfl, rfl⟩ | ⟨hg, k, hk, hr⟩
  · refine ⟨t, .inl ⟨⟨j, want, d, hg, hd, ?_⟩, rfl, rfl, rfl, rfl⟩, fun i hi => (by cases hi), fun _ _ => rfl, rfl⟩
    rw [hf d (looks_guard hg hd)]; exact hv
  · obtain ⟨t', h1, h2⟩ := hr.move hl ha
    refine ⟨t', .inr ⟨?_, k, ?_, h1⟩, h2⟩
    · rcases hg with hg | ⟨j, want, d, hg, hd, hv⟩
      · exact .inl hg
      · exact .inr ⟨j, want, d, hg, hd, by rw [hf d (looks_guard hg hd)]; exact hv⟩
    · rw [← hk]
      exact opAct_congr o fun x hx => evalO_congr fun t ht => hf t (looks_op (by rw [← ht]; exact hx))
theorem Does.frame {all : Array Oper} {p : Nat} {fr : Fr T} {st st' : List (Ob T)} {o : Oper} {v : Option (V T)} {rd wr : List Nat} (h : Does P E all p fr st o v rd wr st') :
    (∀ i, i ∉ wr → st'[i]? = st[i]?) ∧ st'.length = st.length ∧ ∀ i ∈ wr, i ∈ rd := by
  rcases h with ⟨_, rfl, rfl, rfl, rfl⟩ | ⟨hg, k, hk, hr⟩
  · exact ⟨fun _ _ => rfl, rfl, fun _ h => h⟩
  · exact hr.frame

def FrEq (fr fr' : Fr T) : Prop := ∀ t, Fr.get fr t = Fr.get fr' t
abbrev Sx (T : K → Type) := Fr T × List (Ob T)
structure Lb where
  i : Nat
  o : Oper
  F : Foot
/-- One operation of a region whose order is drawn. -/
def Ex (P : Program) (E : Env T) (all : Array Oper) (n base : Nat) (s : Sx T) (l : Lb) (s' : Sx T) : Prop :=
  ∃ v rd wr, Does P E all (base + 4 * l.i) s.1 s.2 l.o v rd wr s'.2 ∧ l.F = footOf all l.o l.i rd wr ∧ dstOk n l.o.dst = true ∧ FrEq s'.1 (putO s.1 l.o.dst v)

theorem apartS_spec {all : Array Oper} {o o' : Oper} {i i' : Nat} {rd wr rd' wr' : List Nat} (h : apartS (footOf all o i rd wr) (footOf all o' i' rd' wr') = true) :
    (∀ d, o.dst = some d → d ∉ o'.looksAt all ∧ o'.dst ≠ some d) ∧ (∀ d, o'.dst = some d → d ∉ o.looksAt all) := by
  simp only [apartS, footOf, Bool.and_eq_true, Bool.not_eq_true'] at h
  obtain ⟨h1, h2⟩ := h
  have hno : ∀ {d : Nat} {l : List Nat}, has d l = false → d ∉ l := fun hb hm => by rw [has_iff.2 hm] at hb; cases hb
  refine ⟨fun d hd => ?_, fun d hd => ?_⟩
  · rw [hd] at h1
    simp only [Bool.and_eq_true, Bool.not_eq_true'] at h1
    refine ⟨hno h1.1, fun he => ?_⟩
    rw [he] at h1
    simp [Nat.beq_refl] at h1
  · rw [hd] at h2
    simp only [Bool.not_eq_true'] at h2
    exact hno h2
theorem apartO_spec {all : Array Oper} {o o' : Oper} {i i' : Nat} {rd wr rd' wr' : List Nat} (h : apartO (footOf all o i rd wr) (footOf all o' i' rd' wr') = true) :
    (∀ x ∈ wr, x ∉ rd') ∧ (∀ x ∈ wr', x ∉ rd) := by
  simp only [apartO, footOf, Bool.and_eq_true, List.all_eq_true, Bool.not_eq_true'] at h
  have hno : ∀ {d : Nat} {l : List Nat}, has d l = false → d ∉ l := fun hb hm => by rw [has_iff.2 hm] at hb; cases hb
  exact ⟨fun x hx => hno (h.1 x hx), fun x hx => hno (h.2 x hx)⟩

/-! ### Keys, and a map with one entry more -/
theorem leafV {t : Ty K} (hk : t.keyed = true) {x y : V T} {r : Bool} (h : eqLeaf t x y = some r) : r = true ↔ x = y := by
  unfold eqLeaf at h
  cases t <;> first
    | (cases hk; done)
    | skip
  · dsimp only at h
    split at h
    · split at h
      · rename_i hkk
        have := eq_of_beq hkk
        subst this
        simp only [Option.some.injEq] at h
        subst h
        simp
      · cases h
    · cases h
  · dsimp only at h
    split at h
    · simp only [Option.some.injEq] at h
      subst h
      simp
    · cases h
  · dsimp only at h
    split at h
    · simp only [Option.some.injEq] at h
      subst h
      simp
    · cases h
theorem flatV (hE : EnvOk P E) {n d : Nat} : ∀ (fs : List (Nat × Nat)) (o : Nat) {xs ys : List (V T)} {r : Bool}, flat E fs o n = true → xs.length = n → ys.length = n → eqF E d fs xs ys = some r → (r = true ↔ xs.drop o = ys.drop o)
  | [], o, xs, ys, r, hf, hn, hm, h => by
    have ho := Nat.eq_of_beq_eq_true hf
    simp only [eqF, Option.some.injEq] at h
    subst h
    rw [List.drop_eq_nil_of_le (by omega), List.drop_eq_nil_of_le (by omega)]
    simp
  | (u, p) :: fs, o, xs, ys, r, hf, hn, hm, h => by
    simp only [flat, Bool.and_eq_true] at hf
    obtain ⟨h1, h2, h3⟩ := hf
    have hpo := Nat.eq_of_beq_eq_true h1
    subst hpo
    cases d with
    | zero => simp [eqF] at h
    | succ d =>
      simp only [eqF] at h
      split at h
      case h_2 => cases h
      rename_i hlen
      simp only [Bool.and_eq_true] at hlen
      have hs := keyed_size (hE.ty u) h2
      have hl1 := Nat.le_of_ble_eq_true hlen.1
      have hl2 := Nat.le_of_ble_eq_true hlen.2
      rw [hs] at hl1 hl2
      split at h
      case h_2 => cases h
      rename_i a b ha hb
      simp only [Option.some.injEq] at h
      subst h
      obtain ⟨x, y, e1, e2, e3⟩ := eqT_leaf h2 ha
      rw [hs] at e1 e2
      have hv : p < xs.length := by omega
      have hu : p < ys.length := by omega
      rw [List.drop_eq_getElem_cons hv, List.take_succ_cons, List.take_zero] at e1
      rw [List.drop_eq_getElem_cons hu, List.take_succ_cons, List.take_zero] at e2
      cases e1
      cases e2
      rw [List.drop_eq_getElem_cons hv, List.drop_eq_getElem_cons hu, Bool.and_eq_true, leafV h2 e3, flatV hE fs (p + 1) h3 hn hm hb, List.cons.injEq]
theorem eqb_enc (hE : EnvOk P E) {e : K} (hk : keyedT E (E.num e) = true) (a b : T e) : E.eqb e a b = true ↔ E.enc e a = E.enc e b := by
  have h3 := hE.key e hk a b
  unfold keyedT at hk
  split at hk
  · rename_i fs hty
    have hF : eqF E 99 fs (E.enc e a) (E.enc e b) = some (E.eqb e a b) := by
      unfold eqT at h3
      rw [hty] at h3
      exact h3
    have := flatV hE fs 0 hk (hE.encLen e a) (hE.encLen e b) hF
    simpa using this
  · obtain ⟨x, y, e1, e2, e3⟩ := eqT_leaf hk h3
    rw [leafV hk e3, e1, e2]
    simp
theorem lookup_upd (hE : EnvOk P E) {kt et : K} (hk : keyedT E (E.num kt) = true) (k k' : T kt) (z : T et) : ∀ (ents : List (T kt × T et)), (lookupT kt et E (updT kt et E ents k ((lookupT kt et E ents k).getD z)) k').getD z = (lookupT kt et E ents k').getD z
  | [] => by
    simp only [lookupT, updT]
    cases E.eqb kt k' k <;> rfl
  | p :: ps => by
    cases hb : E.eqb kt k p.1 with
    | true =>
      have h1 := (eqb_enc hE hk k p.1).1 hb
      have h2 : E.eqb kt k' k = E.eqb kt k' p.1 := by
        rw [Bool.eq_iff_iff, eqb_enc hE hk, eqb_enc hE hk, h1]
      simp only [lookupT, updT, hb, cond_true, Option.getD_some, h2]
    | false =>
      have ih := lookup_upd hE hk k k' z ps
      simp only [lookupT, updT, hb, cond_false]
      cases E.eqb kt k' p.1 with
      | true => rfl
      | false => exact ih
theorem lookK_ent (hE : EnvOk P E) {k0 e0 k1 e1 : K} {i : Nat} {k kv : V T} {ob ob' : Ob T} {b : Bool} {v : V T} {u : Option (V T)} (h1 : lookK E k0 e0 false k ob = some (true, v)) (h2 : entK E k1 e1 i kv ob = some (b, ob', u)) : lookK E k0 e0 false k ob' = some (true, v) := by
  unfold entK at h2
  split at h2
  case h_2 => cases h2
  rename_i kt et ents
  split at h2
  case h_2 => cases h2
  rename_i key z hck hkey hz
  split at h2
  case h_2 => cases h2
  simp only [Option.some.injEq, Prod.mk.injEq] at h2
  obtain ⟨_, rfl, _⟩ := h2
  have hkt : keyedT E (E.num kt) = true := by
    unfold keyOf at hkey
    split at hkey
    · assumption
    · cases hkey
  unfold lookK at h1 ⊢
  dsimp only at h1 ⊢
  rw [hz] at h1 ⊢
  split at h1
  case h_2 => cases h1
  rename_i key' z' hc hkey' hz'
  cases hz'
  rw [lookup_upd hE hkt]
  split at h1
  · rename_i v' hv'
    simp only [lookRes, Option.some.injEq, Prod.mk.injEq, true_and] at h1 ⊢
    exact h1
  · cases h1

theorem Res.rd_inv {p : Nat} {st st' : List (Ob T)} {i : Nat} {f : Ob T → Option (Bool × V T)} {rd wr : List Nat} {v : Option (V T)} (h : Res P E p st (.rd i f) rd wr v st') : ∃ u, rd = [i] ∧ wr = [] ∧ v = some u ∧ st' = st ∧ (st[i]?).bind f = some (true, u) := by
  cases h with
  | rd h => exact ⟨_, rfl, rfl, rfl, rfl, h⟩
theorem Res.wr_inv {p : Nat} {st st' : List (Ob T)} {i : Nat} {f : Ob T → Option (Bool × Ob T × Option (V T))} {rd wr : List Nat} {v : Option (V T)} (h : Res P E p st (.wr i f) rd wr v st') : ∃ ob, rd = [i] ∧ wr = [i] ∧ st' = st.set i ob ∧ (st[i]?).bind f = some (true, ob, v) := by
  cases h with
  | wr h => exact ⟨_, rfl, rfl, rfl, h⟩
theorem Does.swapO {all : Array Oper} {n base : Nat} {s s1 s2 : Sx T} {j i : Lb} {vj vi : Option (V T)} {rdj wrj rdi wri : List Nat} (hj : Does P E all (base + 4 * j.i) s.1 s.2 j.o vj rdj wrj s1.2) (hFj : j.F = footOf all j.o j.i rdj wrj) (hdj : dstOk n j.o.dst = true) (hfj : FrEq s1.1 (putO s.1 j.o.dst vj))
    (hi : Does P E all (base + 4 * i.i) s1.1 s1.2 i.o vi rdi wri s2.2) (hFi : i.F = footOf all i.o i.i rdi wri) (hdi : dstOk n i.o.dst = true) (hfi : FrEq s2.1 (putO s1.1 i.o.dst vi))
    (a1 : ∀ d, j.o.dst = some d → d ∉ i.o.looksAt all ∧ i.o.dst ≠ some d) (a2 : ∀ d, i.o.dst = some d → d ∉ j.o.looksAt all) (a3 : ∀ x ∈ wrj, x ∉ rdi) (a4 : ∀ x ∈ wri, x ∉ rdj) :
    ∃ t1, Ex P E all n base s i t1 ∧ Ex P E all n base t1 j s2 := by
  obtain ⟨b1, b2, b3⟩ := hj.frame
  obtain ⟨c1, c2, c3⟩ := hi.frame
  obtain ⟨t', d1, d2, d3, d4⟩ := hi.move (fr' := s.1) (t := s.2) (fun x hx => by
      rw [hfj x, get_putO, if_neg]
      intro he
      exact (a1 x he).1 hx) b2.symm (fun x hx => (b1 x fun hw => a3 x hw hx).symm)
  obtain ⟨t'', e1, e2, e3, e4⟩ := hj.move (fr' := putO s.1 i.o.dst vi) (t := t') (fun x hx => by
      rw [get_putO, if_neg]
      intro he
      exact a2 x he hx) d4 (fun x hx => d3 x fun hw => a4 x hw hx)
  have ht : t'' = s2.2 := by
    apply List.ext_getElem?
    intro x
    by_cases hxj : x ∈ wrj
    · rw [e2 x hxj, c1 x fun hw => a3 x hxj (c3 x hw)]
    · rw [e3 x hxj]
      by_cases hxi : x ∈ wri
      · rw [d2 x hxi]
      · rw [d3 x hxi, c1 x hxi, b1 x hxj]
  subst ht
  refine ⟨(putO s.1 i.o.dst vi, t'), ⟨vi, rdi, wri, d1, hFi, hdi, fun _ => rfl⟩, ⟨vj, rdj, wrj, e1, hFj, hdj, fun x => ?_⟩⟩
  rw [hfi x, get_putO, get_putO, get_putO]
  by_cases h1 : i.o.dst = some x
  · rw [if_pos h1, if_neg fun h2 => (a1 x h2).2 h1, if_pos h1]
  · rw [if_neg h1, hfj x, get_putO, if_neg h1]
theorem Ex.swap (hE : EnvOk P E) {all : Array Oper} {n base : Nat} {s s1 s2 : Sx T} {j i : Lb} (h : Ex P E all n base s j s1) (k : Ex P E all n base s1 i s2) (hap : apart1 j.F i.F = true) :
    ∃ t1, Ex P E all n base s i t1 ∧ Ex P E all n base t1 j s2 := by
  obtain ⟨vj, rdj, wrj, hj, hFj, hdj, hfj⟩ := h
  obtain ⟨vi, rdi, wri, hi, hFi, hdi, hfi⟩ := k
  rw [hFj, hFi] at hap
  simp only [apart1, Bool.and_eq_true, Bool.or_eq_true] at hap
  obtain ⟨hS, hO⟩ := hap
  obtain ⟨a1, a2⟩ := apartS_spec hS
  rcases hO with hO | ⟨hk1, hk2⟩
  · obtain ⟨a3, a4⟩ := apartO_spec hO
    exact Does.swapO hj hFj hdj hfj hi hFi hdi hfi a1 a2 a3 a4
  · have hk1 : opKind j.o.op = 1 := Nat.eq_of_beq_eq_true hk1
    have hk2 : opKind i.o.op = 2 := Nat.eq_of_beq_eq_true hk2
    have hj0 := hj
    have hi0 := hi
    rcases hj with ⟨_, _, rfl, rfl, _⟩ | ⟨hgj, kj, hkj, hrj⟩
    · exact Does.swapO hj0 hFj hdj hfj hi0 hFi hdi hfi a1 a2 (fun x hx => by cases hx) (fun x _ hx => by cases hx)
    rcases hi with ⟨_, _, rfl, rfl, _⟩ | ⟨hgi, ki, hki, hri⟩
    · exact Does.swapO hj0 hFj hdj hfj hi0 hFi hdi hfi a1 a2 (fun x _ hx => by cases hx) (fun x hx => by cases hx)
    -- a look into a map, then the making of an entry
    obtain ⟨x, k0, e0, kv, rfl⟩ : ∃ x k0 e0 kv, kj = .rd x (lookK E k0 e0 false kv) := by
      unfold opKind at hk1
      split at hk1
      · rename_i hop
        unfold opAct at hkj
        rw [hop] at hkj
        dsimp only at hkj
        unfold lookupA at hkj
        split at hkj
        · simp only [Option.some.injEq] at hkj
          exact ⟨_, _, _, _, hkj.symm⟩
        · cases hkj
      · cases hk1
      · cases hk1
    obtain ⟨y, k1, e1, ku, rfl⟩ : ∃ y k1 e1 ku, ki = .wr y (entK E k1 e1 y ku) := by
      unfold opKind at hk2
      split at hk2
      · cases hk2
      · rename_i hop
        unfold opAct at hki
        rw [hop] at hki
        dsimp only at hki
        unfold mapEntryA at hki
        split at hki
        · simp only [Option.some.injEq] at hki
          exact ⟨_, _, _, _, hki.symm⟩
        · cases hki
      · cases hk2
    obtain ⟨u, rfl, rfl, rfl, hs1, hu⟩ := hrj.rd_inv
    obtain ⟨ob', rfl, rfl, hs2, hu'⟩ := hri.wr_inv
    by_cases hxy : x = y
    · subst hxy
      obtain ⟨t', d1, d2, d3, d4⟩ := hi0.move (fr' := s.1) (t := s.2) (fun z hz => by
          rw [hfj z, get_putO, if_neg]
          intro he
          exact (a1 z he).1 hz) (by rw [hs1]) (fun _ _ => by rw [hs1])
      have ht : t' = s2.2 := by
        apply List.ext_getElem?
        intro z
        rw [hs2]
        by_cases hz : z = x
        · subst hz
          rw [d2 z (List.mem_singleton.2 rfl), hs2]
        · rw [d3 z (fun hm => hz (List.mem_singleton.1 hm)), List.getElem?_set_ne (fun e => hz e.symm), hs1]
      subst ht
      obtain ⟨w1, hw1, hw2⟩ := Option.bind_eq_some_iff.1 hu
      obtain ⟨w2, hw3, hw4⟩ := Option.bind_eq_some_iff.1 hu'
      rw [hs1, hw1] at hw3
      cases hw3
      have hx : x < s1.2.length := by rw [hs1]; exact (List.getElem?_eq_some_iff.1 hw1).1
      have hlook : (s2.2[x]?).bind (lookK E k0 e0 false kv) = some (true, u) := by
        rw [hs2, List.getElem?_set_self hx]
        exact lookK_ent hE hw2 hw4
      refine ⟨(putO s.1 i.o.dst vi, s2.2), ⟨vi, _, _, d1, hFi, hdi, fun _ => rfl⟩, ⟨some u, [x], [], .inr ⟨?_, _, ?_, .rd hlook⟩, hFj, hdj, fun z => ?_⟩⟩
      · rcases hgj with hgj | ⟨j', want, d, hg, hd, hv⟩
        · exact .inl hgj
        · refine .inr ⟨j', want, d, hg, hd, ?_⟩
          dsimp only
          rw [get_putO, if_neg fun he => a2 d he (looks_guard hg hd)]
          exact hv
      · rw [← hkj]
        refine opAct_congr j.o fun z hz => evalO_congr fun t ht => ?_
        dsimp only
        rw [get_putO, if_neg fun he => a2 t he (looks_op (by rw [← ht]; exact hz))]
      · rw [hfi z, get_putO, get_putO, get_putO]
        by_cases h1 : i.o.dst = some z
        · rw [if_pos h1, if_neg fun h2 => (a1 z h2).2 h1, if_pos h1]
        · rw [if_neg h1, hfj z, get_putO, if_neg h1]
    · exact Does.swapO hj0 hFj hdj hfj hi0 hFi hdi hfi a1 a2 (fun z hz => by cases hz) (fun z hz hz' => hxy ((List.mem_singleton.1 hz').symm.trans (List.mem_singleton.1 hz)))
inductive Run (P : Program) (E : Env T) (all : Array Oper) (n base : Nat) : Sx T → List Lb → Sx T → Prop
  | nil {s s'} (h1 : FrEq s'.1 s.1) (h2 : s'.2 = s.2) : Run P E all n base s [] s'
  | cons {s l s1 L s'} (h : Ex P E all n base s l s1) (k : Run P E all n base s1 L s') : Run P E all n base s (l :: L) s'
theorem Run.pull (hE : EnvOk P E) {all : Array Oper} {n base : Nat} {l : Lb} {L2 : List Lb} : ∀ {L1 : List Lb} {s s' : Sx T}, Run P E all n base s (L1 ++ l :: L2) s' → (∀ m ∈ L1, apart1 m.F l.F = true) →
    ∃ t, Ex P E all n base s l t ∧ Run P E all n base t (L1 ++ L2) s'
  | [], s, s', h, _ => by
    cases h with
    | cons h k => exact ⟨_, h, k⟩
  | m :: L1, s, s', h, ha => by
    cases h with
    | cons h k =>
      obtain ⟨t, h1, h2⟩ := Run.pull hE k fun m' hm => ha m' (List.mem_cons_of_mem _ hm)
      obtain ⟨t1, h3, h4⟩ := h.swap hE h1 (ha m (List.mem_cons_self ..))
      exact ⟨t1, h3, .cons h4 h2⟩

/-! ### What must come before -/
theorem testBit_fold {acc : Array Nat} (a : Nat) : ∀ (es : List Edge) (s : Nat), (es.foldl (fun s e => if Region.binds .any e then s ||| 2 ^ e.on ||| acc.getD e.on 0 else s) s).testBit a = true →
    s.testBit a = true ∨ ∃ e ∈ es, Region.binds .any e = true ∧ (e.on = a ∨ (acc.getD e.on 0).testBit a = true)
  | [], s, h => .inl h
  | e :: es, s, h => by
    rw [List.foldl_cons] at h
    rcases testBit_fold a es _ h with h1 | ⟨e', h1, h2⟩
    · split at h1
      · rename_i hb
        rw [Nat.testBit_or, Nat.testBit_or, Bool.or_eq_true, Bool.or_eq_true] at h1
        rcases h1 with (h1 | h1) | h1
        · exact .inl h1
        · rw [Nat.testBit_two_pow] at h1
          exact .inr ⟨e, List.mem_cons_self .., hb, .inl (by simpa using h1)⟩
        · exact .inr ⟨e, List.mem_cons_self .., hb, .inr h1⟩
      · exact .inl h1
    · exact .inr ⟨e', List.mem_cons_of_mem _ h1, h2⟩
def befores (l : List Oper) (acc : Array Nat) : Array Nat := l.foldl (fun acc o => acc.push (o.after.foldl (fun s e => if Region.binds .any e then s ||| 2 ^ e.on ||| acc.getD e.on 0 else s) 0)) acc
theorem befores_size : ∀ (l : List Oper) (acc : Array Nat), (befores l acc).size = acc.size + l.length
  | [], acc => rfl
  | o :: l, acc => by
    show (befores l _).size = _
    rw [befores_size l]
    simp; omega
theorem befores_old : ∀ (l : List Oper) (acc : Array Nat) (i : Nat), i < acc.size → (befores l acc)[i]? = acc[i]?
  | [], _, _, _ => rfl
  | o :: l, acc, i, h => by
    show (befores l _)[i]? = _
    rw [befores_old l _ i (by simp; omega), Array.getElem?_push, if_neg (by omega)]
theorem befores_spec : ∀ (l : List Oper) (acc : Array Nat) (b a : Nat) (o : Oper), acc.size ≤ b → l[b - acc.size]? = some o → (∀ e ∈ o.after, Region.binds .any e = true → e.on < b) → ((befores l acc).getD b 0).testBit a = true →
    ∃ e ∈ o.after, Region.binds .any e = true ∧ (e.on = a ∨ ((befores l acc).getD e.on 0).testBit a = true)
  | [], acc, b, a, o, _, h, _, _ => by simp at h
  | o' :: l, acc, b, a, o, hb, h, he, ht => by
    by_cases hbs : b = acc.size
    · subst hbs
      simp only [Nat.sub_self, List.getElem?_cons_zero, Option.some.injEq] at h
      subst h
      have h1 : (befores (o' :: l) acc).getD acc.size 0 = o'.after.foldl (fun s e => if Region.binds .any e then s ||| 2 ^ e.on ||| acc.getD e.on 0 else s) 0 := by
        have : (befores (o' :: l) acc)[acc.size]? = some (o'.after.foldl (fun s e => if Region.binds .any e then s ||| 2 ^ e.on ||| acc.getD e.on 0 else s) 0) := by
          show (befores l (acc.push _))[acc.size]? = _
          rw [befores_old l _ _ (by simp)]
          simp
        rw [Array.getD_eq_getD_getElem?, this]
        rfl
      rw [h1, ← Array.foldl_toList] at ht
      rcases testBit_fold a _ _ ht with h2 | ⟨e, h2, h3, h4⟩
      · simp at h2
      · refine ⟨e, Array.mem_toList_iff.1 h2, h3, h4.imp id fun h5 => ?_⟩
        have hlt := he e (Array.mem_toList_iff.1 h2) h3
        have : (befores (o' :: l) acc)[e.on]? = acc[e.on]? := befores_old _ _ _ hlt
        rw [Array.getD_eq_getD_getElem?, this, ← Array.getD_eq_getD_getElem?]
        exact h5
    · have hlt : acc.size + 1 ≤ b := by omega
      exact befores_spec l _ b a o (by simp; omega) (by
        have : b - acc.size = (b - (acc.size + 1)) + 1 := by omega
        rw [this, List.getElem?_cons_succ] at h
        simpa using h) he ht
theorem before_eq (all : Array Oper) : Region.before all = befores all.toList #[] := by
  unfold Region.before befores
  rw [← Array.foldl_toList]
theorem before_spec {all : Array Oper} {b a : Nat} {o : Oper} (ho : all[b]? = some o) (he : ∀ e ∈ o.after, Region.binds .any e = true → e.on < b) (ht : ((Region.before all).getD b 0).testBit a = true) :
    ∃ e ∈ o.after, Region.binds .any e = true ∧ (e.on = a ∨ ((Region.before all).getD e.on 0).testBit a = true) := by
  rw [before_eq] at ht ⊢
  exact befores_spec _ _ b a o (by simp) (by simpa using ho) he ht
theorem backward_spec : ∀ {l : List Oper} {i : Nat}, backward l i = true → ∀ (k : Nat) (o : Oper), l[k]? = some o → ∀ e ∈ o.after, Region.binds .any e = true → e.on < i + k
  | [], _, _, k, o, h => by simp at h
  | o' :: l, i, hb, 0, o, h => by
    simp only [List.getElem?_cons_zero, Option.some.injEq] at h
    subst h
    simp only [backward, Bool.and_eq_true, List.all_eq_true] at hb
    intro e he hbi
    have := hb.1 e (Array.mem_toList_iff.2 he)
    rw [hbi] at this
    have h3 : e.on < i := by simpa using this
    omega
  | o' :: l, i, hb, k + 1, o, h => by
    simp only [backward, Bool.and_eq_true] at hb
    intro e he hbi
    have := backward_spec hb.2 k o (by simpa using h) e he hbi
    omega

/-- All that must come before a thing that may come now has come. -/
theorem come {all : Array Oper} {listed : Array Bool} (hback : ∀ (b : Nat) (o : Oper), all[b]? = some o → ∀ e ∈ o.after, Region.binds .any e = true → e.on < b)
    (hcl : ∀ (b : Nat) (o : Oper), all[b]? = some o → listed.getD b false = true → ∀ e ∈ o.after, Region.binds .any e = true → listed.getD e.on false = true) (hsz : listed.size = all.size) :
    ∀ (b : Nat) (o : Oper) (a : Nat), all[b]? = some o → (∀ e ∈ o.after, Region.binds .any e = true → listed.getD e.on false = true) → ((Region.before all).getD b 0).testBit a = true → listed.getD a false = true := by
  intro b
  induction b using Nat.strongRecOn with
  | _ b ih =>
    intro o a ho hp ht
    obtain ⟨e, h1, h2, h3⟩ := before_spec ho (hback b o ho) ht
    rcases h3 with h3 | h3
    · subst h3; exact hp e h1 h2
    · have hlt := hback b o ho e h1 h2
      have hl := hp e h1 h2
      have hb : e.on < all.size := by
        have := (Array.getElem?_eq_some_iff.1 ho).1
        omega
      exact ih e.on hlt all[e.on] a (by simp [hb]) (hcl e.on _ (by simp [hb]) hl) h3

/-! ### The region -/
theorem GYes.wanted {g : Gh} {all : Array Oper} {o : Oper} {fr : Fr T} {tmps : Array Value} (hf : FrOk E g fr tmps) (h : GYes all o fr) : Region.wanted o (yielded all tmps) = true := by
  unfold Region.wanted
  rcases h with h | ⟨j, want, d, h1, h2, h3⟩
  · rw [h]
  · rw [h1]
    obtain ⟨x, h4, h5⟩ := hf d _ h3
    have := h5.bool_inv
    subst this
    simp [yielded, h2, h4]
theorem GNo.wanted {g : Gh} {all : Array Oper} {o : Oper} {fr : Fr T} {tmps : Array Value} (hf : FrOk E g fr tmps) (h : GNo all o fr) : Region.wanted o (yielded all tmps) = false := by
  unfold Region.wanted
  obtain ⟨j, want, d, h1, h2, h3⟩ := h
  rw [h1]
  rcases h3 with h3 | h3
  · obtain ⟨x, h4, h5⟩ := hf d _ h3
    have := h5.bool_inv
    subst this
    cases want <;> simp [yielded, h2, h4]
  · obtain ⟨x, h4, h5⟩ := hf d _ h3
    have : x = undef := by cases h5 with
      | fc h => cases h
      | und => rfl
    subst this
    simp [yielded, h2, h4, undef]

theorem Ex.wp (hE : EnvOk P E) {all : Array Oper} {n base : Nat} {s s' : Sx T} {l : Lb} (h : Ex P E all n base s l s') (hl : all[l.i]? = some l.o) {g : Gh} {w : World} {a : Act} (hi : Inv E g s.2 w) (hf : FrOk E g s.1 a.tmps) (hn : n ≤ a.tmps.size)
    {R : Act → World → Prop} {Q : Exit → Act → World → Prop} (hK : ∀ g' w' x, To E g w g' s'.2 w' → FrOk E g' s'.1 (a.put l.o.dst x).tmps → R (a.put l.o.dst x) w') : wpOp P all Q l.i R a w := by
  obtain ⟨v, rd, wr, hd, _, hdst, hfr⟩ := h
  unfold wpOp
  rw [hl]
  dsimp only
  have fin : ∀ {g' w' x}, To E g w g' s'.2 w' → RepO E g' v x → R (a.put l.o.dst x) w' := fun {g' w' x} hto hx => hK g' w' x hto fun t u hu => by
    rw [hfr t] at hu
    exact FrOk.putO (hf.mono hto.le) hx hdst hn t u hu
  rcases hd with ⟨hg, rfl, rfl, rfl, hst⟩ | ⟨hg, k, hk, hr⟩
  · rw [hg.wanted hf]
    simp only [Bool.false_eq_true, if_false]
    exact fin (by rw [hst]; exact .refl hi) rfl
  · rw [hg.wanted hf]
    simp only [if_true]
    exact .inl (hr.wp hE hi hf hk fun g' w' x h1 h2 => fin h1 h2)

theorem any_order (hE : EnvOk P E) {all : Array Oper} {n base : Nat} {s' : Sx T} {Q : Exit → Act → World → Prop} (hback : ∀ (b : Nat) (o : Oper), all[b]? = some o → ∀ e ∈ o.after, Region.binds .any e = true → e.on < b) :
    ∀ (fuel : Nat) (L : List Lb) (listed : Array Bool) (s : Sx T) (g : Gh) (a : Act) (w : World), L.length ≤ fuel → Inv E g s.2 w → FrOk E g s.1 a.tmps → n ≤ a.tmps.size → Run P E all n base s L s' →
      listed.size = all.size → (∀ i : Nat, i < all.size → (listed.getD i true = false ↔ ∃ l ∈ L, l.i = i)) → (∀ l ∈ L, all[l.i]? = some l.o) → L.Pairwise (fun a b => a.i < b.i) →
      L.Pairwise (fun a b => ((Region.before all).getD b.i 0).testBit a.i = true ∨ apart1 a.F b.F = true) →
      (∀ (b : Nat) (o : Oper), all[b]? = some o → listed.getD b false = true → ∀ e ∈ o.after, Region.binds .any e = true → listed.getD e.on false = true) →
      (∀ g' a' w', To E g w g' s'.2 w' → FrOk E g' s'.1 a'.tmps → a'.tmps.size = a.tmps.size → a'.defers = a.defers → Q .normal a' w') → wpAny P .any all Q fuel listed a w := by
  intro fuel
  -- what is ready, if anything is left
  have ready : ∀ (L : List Lb) (listed : Array Bool), listed.size = all.size → (∀ i : Nat, i < all.size → (listed.getD i true = false ↔ ∃ l ∈ L, l.i = i)) → (∀ l ∈ L, all[l.i]? = some l.o) → L.Pairwise (fun a b => a.i < b.i) →
      Region.ready .any all listed = [] → L = [] := by
    intro L listed hsz hl hop hsort hr
    cases L with
    | nil => rfl
    | cons l L =>
      have ho := hop l (List.mem_cons_self ..)
      have hlt : l.i < all.size := (Array.getElem?_eq_some_iff.1 ho).1
      have : l.i ∈ Region.ready .any all listed := by
        rw [mem_ready]
        refine ⟨(hl l.i hlt).2 ⟨l, List.mem_cons_self .., rfl⟩, l.o, ho, fun e he hb => ?_⟩
        have h1 := hback l.i l.o ho e he hb
        cases hc : listed.getD e.on false with
        | true => rfl
        | false =>
          have h2 : listed.getD e.on true = false := by
            have : e.on < listed.size := by omega
            simpa [this] using hc
          obtain ⟨m, hm, hme⟩ := (hl e.on (by omega)).1 h2
          rcases List.mem_cons.1 hm with rfl | hm
          · omega
          · have := (List.pairwise_cons.1 hsort).1 m hm
            omega
      rw [hr] at this
      cases this
  induction fuel with
  | zero =>
    intro L listed s g a w hlen hi hf hn hrun hsz hl hop hsort hap hcl hQ
    have : L = [] := List.eq_nil_of_length_eq_zero (by omega)
    subst this
    refine ⟨?_, ?_⟩
    · cases hrr : Region.ready .any all listed with
      | nil => rfl
      | cons i is =>
        have hm : i ∈ Region.ready .any all listed := by rw [hrr]; exact List.mem_cons_self ..
        obtain ⟨h1, o, h2, _⟩ := mem_ready.1 hm
        obtain ⟨m, hm, _⟩ := (hl i (Array.getElem?_eq_some_iff.1 h2).1).1 h1
        cases hm
    · cases hrun with
      | nil h1 h2 => exact hQ g a w (by rw [h2]; exact .refl hi) (fun t u hu => hf t u (by rw [← h1 t]; exact hu)) rfl rfl
  | succ fuel ih =>
    intro L listed s g a w hlen hi hf hn hrun hsz hl hop hsort hap hcl hQ
    refine ⟨fun hr => ?_, fun i hir => ?_⟩
    · have := ready L listed hsz hl hop hsort hr
      subst this
      cases hrun with
      | nil h1 h2 => exact hQ g a w (by rw [h2]; exact .refl hi) (fun t u hu => hf t u (by rw [← h1 t]; exact hu)) rfl rfl
    · obtain ⟨h1, o, ho, hpre⟩ := mem_ready.1 hir
      have hlt : i < all.size := (Array.getElem?_eq_some_iff.1 ho).1
      obtain ⟨l, hlm, rfl⟩ := (hl i hlt).1 h1
      obtain ⟨L1, L2, rfl⟩ := List.append_of_mem hlm
      have hlo := hop l hlm
      rw [ho] at hlo
      cases hlo
      rw [List.pairwise_append] at hsort hap
      obtain ⟨hs1, hs2, hs3⟩ := hsort
      obtain ⟨ha1, ha2, ha3⟩ := hap
      rw [List.pairwise_cons] at hs2 ha2
      have hunl : ∀ m ∈ L1, listed.getD m.i false = false := fun m hm => by
        have hmo := hop m (List.mem_append_left _ hm)
        have hmlt : m.i < all.size := (Array.getElem?_eq_some_iff.1 hmo).1
        have := (hl m.i hmlt).2 ⟨m, List.mem_append_left _ hm, rfl⟩
        have hms : m.i < listed.size := by omega
        simpa [hms] using this
      obtain ⟨t, hex, hrun'⟩ := hrun.pull hE fun m hm => by
        rcases ha3 m hm l (List.mem_cons_self ..) with hb | hb
        · have := come hback hcl hsz l.i l.o m.i ho hpre hb
          rw [hunl m hm] at this
          cases this
        · exact hb
      refine hex.wp hE ho hi hf hn fun g' w' x hto hf' => ?_
      have hls : l.i < listed.size := by omega
      refine ih (L1 ++ L2) _ t g' _ w' (by simp at hlen ⊢; omega) hto.inv hf' (by rw [put_size]; exact hn) hrun' (by simp [hsz]) (fun j hj => ?_) (fun m hm => hop m ?_) ?_ ?_ ?_ ?_
      · have hjl : j < listed.size := by omega
        by_cases hji : l.i = j
        · subst hji
          rw [show (listed.setIfInBounds l.i true).getD l.i true = true by simp [hjl]]
          simp only [Bool.true_eq_false, false_iff]
          rintro ⟨m, hm, hmi⟩
          rcases List.mem_append.1 hm with hm | hm
          · have := hs3 m hm l (List.mem_cons_self ..); omega
          · have := hs2.1 m hm; omega
        · rw [getD_set_ne true hji, hl j hj]
          constructor
          · rintro ⟨m, hm, hmi⟩
            rcases List.mem_append.1 hm with hm | hm
            · exact ⟨m, List.mem_append_left _ hm, hmi⟩
            · rcases List.mem_cons.1 hm with rfl | hm
              · exact absurd hmi hji
              · exact ⟨m, List.mem_append_right _ hm, hmi⟩
          · rintro ⟨m, hm, hmi⟩
            rcases List.mem_append.1 hm with hm | hm
            · exact ⟨m, List.mem_append_left _ hm, hmi⟩
            · exact ⟨m, List.mem_append_right _ (List.mem_cons_of_mem _ hm), hmi⟩
      · rcases List.mem_append.1 hm with hm | hm
        · exact List.mem_append_left _ hm
        · exact List.mem_append_right _ (List.mem_cons_of_mem _ hm)
      · rw [List.pairwise_append]
        exact ⟨hs1, hs2.2, fun a ha b hb => hs3 a ha b (List.mem_cons_of_mem _ hb)⟩
      · rw [List.pairwise_append]
        exact ⟨ha1, ha2.2, fun a ha b hb => ha3 a ha b (List.mem_cons_of_mem _ hb)⟩
      · intro b o' hb hlb e he hbi
        by_cases hbl : l.i = b
        · subst hbl
          rw [ho] at hb
          cases hb
          exact getD_set_true (hpre e he hbi)
        · rw [getD_set_ne false hbl] at hlb
          exact getD_set_true (hcl b o' hb hlb e he hbi)
      · intro g2 a2 w2 hto2 hf2 hs2' hd2
        exact hQ g2 a2 w2 (hto.trans hto2) hf2 (by rw [hs2', put_size]) (by rw [hd2, put_defers])
end Go.Proofs.YtnenfgpjedddoaaGreat.AI

/- What is kept at cuts, and what goes back to the caller. -/
set_option linter.unusedVariables false
set_option linter.unusedSectionVars false
set_option linter.unusedSimpArgs false
namespace Go.Proofs.YtnenfgpjedddoaaGreat.AI
open Go

variable {K : Type} [DecidableEq K] {T : K → Type} {E : Env T} {P : Program}

section
variable {g : Gh} {st : List (Ob T)} {w : World}
/-- A list gets an object of its own. -/
theorem new_vec (hi : Inv E g st w) {e : K} {xs : List (T e)} {ad : Option Addr} {n : Nat} (hf : Fc E g.G (.sl e xs .no) (.slice ad n n)) :
    ∃ g', To E g w g' (st ++ [.vec e 0]) w ∧ Rep E g' (.sl e xs (.tok st.length 0)) (.slice ad n n) := by
  obtain ⟨d1, d2, d3⟩ := hi.dead 1
  have hlen := hi.len
  have hob : (st ++ List.replicate 1 Ob.dead)[st.length]? = some .dead := by simp
  have hM : (g.M ++ List.replicate 1 Loc.none)[st.length]? = some .none := by rw [← hlen]; simp
  have hstep := d1.step (w' := w) (ob' := .vec e 0) (l' := .vec 0 ad n n false) (G' := g.G) hob hM trivial (.refl _) d1.froz rfl rfl rfl (Nat.le_refl _) (fun b _ _ => ⟨rfl, fun _ => rfl⟩) (fun b hb => by cases ad <;> cases hb)
    ⟨rfl, Nat.le_refl _, fun _ => rfl, fun h => by cases h⟩
  have hset : (st ++ List.replicate 1 Ob.dead).set st.length (.vec e 0) = st ++ [.vec e 0] := by
    rw [List.set_append_right _ _ (Nat.le_refl _)]
    simp
  rw [hset] at hstep
  refine ⟨_, (To.mk d3 d1 d2).trans ⟨hstep.2.2, hstep.1, hstep.2.1⟩, ?_⟩
  exact .sltok hf (ver' := 0) (a' := ad) (n' := n) (cap' := n) (m := false) (List.getElem?_set_self (List.getElem?_eq_some_iff.1 hM).1) (Nat.le_refl _) fun _ => ⟨rfl, rfl, rfl⟩

mutual
theorem grow_ok : ∀ (v : V T) {g : Gh} {st : List (Ob T)} {x : Value}, Inv E g st w → Rep E g v x → ∃ g', To E g w g' (grow st v).2 w ∧ Rep E g' (grow st v).1 x := fun v g st x hi hr => by
  cases v with
  | sl e xs o =>
    cases o with
    | nil =>
      obtain ⟨rfl, rfl⟩ := hr.nil_slice
      exact new_vec hi (.sl0 e)
    | full =>
      cases hr with
      | fc h => cases h
      | slfull h => exact new_vec hi h
    | no => exact ⟨g, .refl hi, hr⟩
    | tok i ver => exact ⟨g, .refl hi, hr⟩
  | agg cs =>
    obtain ⟨vs, h1, h2, rfl⟩ := hr.agg_inv
    obtain ⟨g', h3, h4⟩ := grows_ok cs hi h1
    simp only [grow]
    exact ⟨g', h3, .agg h4 h2⟩
  | _ => exact ⟨g, .refl hi, hr⟩
theorem grows_ok : ∀ (vs : List (V T)) {g : Gh} {st : List (Ob T)} {xs : List Value}, Inv E g st w → Reps E g vs xs → ∃ g', To E g w g' (grow.grows st vs).2 w ∧ Reps E g' (grow.grows st vs).1 xs
  | [], g, st, xs, hi, hr => by
    cases hr
    simp only [grow.grows]
    exact ⟨g, .refl hi, .nil⟩
  | v :: vs, g, st, xs, hi, hr => by
    cases hr with
    | cons h1 h2 =>
      obtain ⟨g1, k1, k2⟩ := grow_ok v hi h1
      obtain ⟨g2, k3, k4⟩ := grows_ok vs k1.inv (h2.mono k1.le)
      simp only [grow.grows]
      exact ⟨g2, k1.trans k3, .cons (k2.mono k3.le) k4⟩
end
theorem growSt_ok : ∀ (n i : Nat) {g : Gh} {st : List (Ob T)}, Inv E g st w → ∃ g', To E g w g' (growSt n i st) w
  | 0, i, g, st, hi => ⟨g, .refl hi⟩
  | n + 1, i, g, st, hi => by
    simp only [growSt]
    split
    · rename_i t cs hob
      have hlt : i < g.M.length := by rw [hi.len]; exact (List.getElem?_eq_some_iff.1 hob).1
      have hM : g.M[i]? = some g.M[i] := by simp [hlt]
      have hok := hi.obs i _ _ hob hM
      generalize g.M[i] = l at hM hok
      cases l <;> simp only [ObOk] at hok
      rename_i b
      obtain ⟨vs, h1, h2, h3, h4⟩ := hok
      obtain ⟨g1, k1, k2⟩ := grows_ok cs hi h2
      obtain ⟨l', hM', hl'⟩ := k1.le.M i _ hM
      cases l' <;> simp only [Loc.Le] at hl' <;> cases hl'
      generalize hgr : grow.grows st cs = r at k1 k2
      obtain ⟨cs', st'⟩ := r
      dsimp only at k1 k2 ⊢
      have hilt : i < st'.length := by rw [← k1.inv.len]; exact (List.getElem?_eq_some_iff.1 hM').1
      have hok1 := k1.inv.obs i st'[i] _ (by simp [hilt]) hM'
      have hg1 : ∀ off, g1.G b off = none := by
        cases hst : st'[i] <;> rw [hst] at hok1 <;> simp only [ObOk] at hok1
        obtain ⟨_, _, _, _, h⟩ := hok1
        exact h
      have hw := k1.inv.write (w' := w) (ob' := .box t cs') (by simp [hilt] : st'[i]? = some st'[i]) hM' ⟨vs, h1, k2, h3, hg1⟩ (fun _ _ => rfl) (fun b' off v hv hb => k1.inv.froz _ _ _ hv) rfl rfl rfl rfl
      obtain ⟨g2, k3⟩ := growSt_ok n (i + 1) hw.inv
      exact ⟨g2, (k1.trans hw).trans k3⟩
    · exact growSt_ok n (i + 1) hi

def KinTo (n : Nat) (g g' : Gh) : Prop := ∀ (i : Nat) (l : Loc), i < n → g.M[i]? = some l → ∃ l', g'.M[i]? = some l' ∧ l.Kin l'
theorem KinTo.refl (n : Nat) (g : Gh) : KinTo n g g := fun i l _ h => ⟨l, h, .refl _⟩
theorem KinTo.trans {n : Nat} {a b c : Gh} (h : KinTo n a b) (k : KinTo n b c) : KinTo n a c := fun i l hi hl =>
  let ⟨l', h1, h2⟩ := h i l hi hl
  let ⟨l'', h3, h4⟩ := k i l' hi h1
  ⟨l'', h3, h2.trans h4⟩
theorem Gh.Le.kin {a b : Gh} (h : a.Le b) (n : Nat) : KinTo n a b := fun i l _ hl =>
  let ⟨l', h1, h2⟩ := h.M i l hl
  ⟨l', h1, h2.kin⟩
theorem pack_kin {M' : List Loc} {ids : List Nat} {keep : Nat} {g' : Gh} (hP : Picked g.M ids g'.M) (hpre : ∃ l, ids = List.range keep ++ l) : KinTo keep g g' := fun i l hi hl => by
  obtain ⟨m, rfl⟩ := hpre
  obtain ⟨l0, h1, h2⟩ := hP.2 i i (by rw [List.getElem?_append_left (by simpa using hi)]; simp [hi])
  rw [hl] at h1
  cases h1
  exact ⟨_, h2, (Loc.Kin.refl l).at_right _⟩

/-- The slots that stay. -/
theorem lives_reps {fr : Fr T} {tmps : Array Value} (hf : FrOk E g fr tmps) : ∀ (ts : List Nat), Reps E g (seconds (lives fr ts)) ((lives fr ts).map fun p => tmps.getD p.1 undef) ∧ ∀ p ∈ lives fr ts, p.1 < tmps.size
  | [] => ⟨.nil, fun _ h => by cases h⟩
  | t :: ts => by
    obtain ⟨h1, h2⟩ := lives_reps hf ts
    simp only [lives]
    split
    · rename_i v hv
      obtain ⟨x, h3, h4⟩ := hf t v hv
      have hlt := (Array.getElem?_eq_some_iff.1 h3).1
      refine ⟨?_, fun p hp => ?_⟩
      · simp only [seconds, List.map_cons]
        refine .cons ?_ h1
        rw [Array.getD_eq_getD_getElem?, h3]
        exact h4
      · rcases List.mem_cons.1 hp with rfl | hp
        · exact hlt
        · exact h2 p hp
    · exact ⟨h1, h2⟩
theorem frOf_ok {tmps : Array Value} : ∀ {l : List (Nat × V T)} {vs : List (V T)}, Reps E g vs (l.map fun p => tmps.getD p.1 undef) → (∀ p ∈ l, p.1 < tmps.size) → FrOk E g (frOf l vs) tmps
  | [], vs, _, _ => by
    cases vs <;> exact fun t v h => by simp [frOf, Fr.get] at h
  | (t, u) :: l, [], h, _ => by cases h
  | (t, u) :: l, v :: vs, h, hs => by
    cases h with
    | cons h1 h2 =>
      intro t' v' h'
      simp only [frOf, Fr.get] at h'
      split at h'
      · rename_i hb
        have := Nat.eq_of_beq_eq_true hb
        subst this
        simp only [Option.some.injEq] at h'
        subst h'
        have hlt := hs (t, u) (List.mem_cons_self ..)
        refine ⟨tmps.getD t undef, ?_, h1⟩
        have hlt' : t < tmps.size := hlt
        simp [hlt']
      · exact frOf_ok h2 (fun p hp => hs p (List.mem_cons_of_mem _ hp)) t' v' h'
theorem prune_ok {fr : Fr T} {tmps : Array Value} (hf : FrOk E g fr tmps) : ∀ (ts : List Nat), FrOk E g (prune fr ts) tmps
  | [] => fun t v h => by simp [prune, Fr.get] at h
  | s :: ts => by
    simp only [prune]
    split
    · rename_i u hu
      intro t v h
      simp only [Fr.get] at h
      split at h
      · rename_i hb
        have := Nat.eq_of_beq_eq_true hb
        subst this
        simp only [Option.some.injEq] at h
        subst h
        exact hf _ _ hu
      · exact prune_ok hf ts t v h
    · exact prune_ok hf ts

/-- Objects and slots at a cut. -/
theorem pack_fr (hi : Inv E g st w) {fr : Fr T} {tmps : Array Value} (hf : FrOk E g fr tmps) {keep : Nat} {live : List Nat} {g1 : Gh} {st1 : List (Ob T)} {us vs : List (V T)} {ids : List Nat} {obs : List (Ob T)} (hto : To E g w g1 st1 w)
    (hus : Reps E g1 us ((lives fr live).map fun p => tmps.getD p.1 undef)) (hp : pack st1 keep us = some (ids, vs, obs)) :
    ∃ g', Inv E g' obs w ∧ Ext g g' w w ∧ KinTo keep g g' ∧ FrOk E g' (frOf (lives fr live) vs) tmps := by
  obtain ⟨g', _, h2, h3, h4, _, h5, _, _, h6, _⟩ := pack_ok hto.inv hp hus
  exact ⟨g', h3, hto.ext.trans h6, (hto.le.kin keep).trans (pack_kin (M' := g'.M) h2 h5), frOf_ok h4 (lives_reps hf live).2⟩

theorem comps_reps {v : V T} {x : Value} (hr : Rep E g v x) : ∃ xs, Reps E g v.comps xs ∧ ∀ {g' : Gh} {vs : List (V T)}, Reps E g' vs xs → Rep E g' (V.back v vs) x := by
  cases v with
  | tup us =>
    obtain ⟨xs, h1, rfl⟩ := hr.tup_inv
    exact ⟨xs, h1, fun h => .tup h⟩
  | _ =>
    refine ⟨[x], .cons hr .nil, fun h => ?_⟩
    cases h with
    | cons a b => cases b; exact a
theorem leave_ok (hE : EnvOk P E) {c : Cfg T} (hi : Inv E g c.st w) {v v' : V T} {x : Value} {st' : List (Ob T)} (hr : Rep E g v x) (h : leave E c v = some (v', st')) :
    ∃ g', Inv E g' st' w ∧ Ext g g' w w ∧ KinTo c.keep g g' ∧ Rep E g' v' x := by
  unfold leave at h
  obtain ⟨xs, hxs, hback⟩ := comps_reps hr
  split at h
  · cases h
  rename_i vs st1 hho
  obtain ⟨g1, h1, h2⟩ := handOver_ok hE hi hxs hho
  obtain ⟨g2, h3⟩ := growSt_ok (E := E) c.keep 0 h1.inv
  dsimp only at h
  have fin : ∀ {g3 : Gh} {vs3 : List (V T)} {st3 : List (Ob T)}, To E g w g3 st3 w → Reps E g3 vs3 xs → (match pack st3 c.keep vs3 with
      | some (_, vs, obs) => some (V.back v vs, obs)
      | none => none) = some (v', st') → ∃ g', Inv E g' st' w ∧ Ext g g' w w ∧ KinTo c.keep g g' ∧ Rep E g' v' x := fun {g3 vs3 st3} hto hus hp => by
    split at hp
    · rename_i ids vs4 obs hpk
      simp only [Option.some.injEq, Prod.mk.injEq] at hp
      obtain ⟨rfl, rfl⟩ := hp
      obtain ⟨g', _, k2, k3, k4, _, k5, _, _, k6, _⟩ := pack_ok hto.inv hpk hus
      exact ⟨g', k3, hto.ext.trans k6, (hto.le.kin _).trans (pack_kin (M' := g'.M) k2 k5), hback k4⟩
    · cases hp
  cases hres : E.ownRes c.fn with
  | true =>
    rw [hres] at h
    dsimp only at h
    obtain ⟨g3, k1, k2⟩ := grows_ok vs h3.inv (h2.mono h3.le)
    exact fin ((h1.trans h3).trans k1) k2 h
  | false =>
    rw [hres] at h
    dsimp only at h
    exact fin (h1.trans h3) (h2.mono h3.le) h
theorem resultV_ok (hE : EnvOk P E) (hi : Inv E g st w) {fr : Fr T} {tmps : Array Value} (hf : FrOk E g fr tmps) : ∀ (rs : List ResultVar) (vs : List (V T)), resultV E fr st rs = some vs →
    ∃ xs, (rs.mapM (fun r => match r with
      | .tmp t => pure (tmps.getD t undef)
      | .cell a t => do loadVar t (← asAddr (tmps.getD a undef)) : ResultVar → Sem Value)).run P w = .ok xs w ∧ Reps E g vs xs
  | [], vs, h => by
    simp only [resultV, Option.some.injEq] at h
    subst h
    exact ⟨[], rfl, .nil⟩
  | .tmp t :: rs, vs, h => by
    simp only [resultV] at h
    split at h
    · rename_i v vs' h1 h2
      simp only [Option.some.injEq] at h
      subst h
      obtain ⟨xs, h3, h4⟩ := resultV_ok hE hi hf rs vs' h2
      obtain ⟨x, h5, h6⟩ := hf t v h1
      refine ⟨x :: xs, ?_, .cons h6 h4⟩
      have : tmps.getD t undef = x := by rw [Array.getD_eq_getD_getElem?, h5]; rfl
      simp only [List.mapM_cons, Sem.run_bind, this, Sem.run_pure, Result.andThen_ok, h3]
    · cases h
  | .cell ad t :: rs, vs, h => by
    simp only [resultV] at h
    split at h
    · rename_i i off vs' h1 h2
      split at h
      · rename_i bt cs hob
        split at h
        · rename_i u hu
          simp only [Option.some.injEq] at h
          subst h
          obtain ⟨xs, h3, h4⟩ := resultV_ok hE hi hf rs vs' h2
          obtain ⟨x, h5, h6⟩ := hf ad _ h1
          obtain ⟨b, hM, rfl⟩ := h6.ptr_inv
          obtain ⟨ws, k1, k2, k3, k4⟩ := hi.obs i _ _ hob hM
          obtain ⟨y, k5, k6⟩ := loadVar_ok hE hu (k2.drop off) (k3.drop off) (at_cells_drop k1 off)
          refine ⟨y :: xs, ?_, .cons k6 h4⟩
          have : tmps.getD ad undef = .pointer (some ⟨b, off, none⟩) := by rw [Array.getD_eq_getD_getElem?, h5]; rfl
          have h0 : (asAddr (tmps.getD ad undef)).run P w = .ok ⟨b, off, none⟩ w := by rw [this]; rfl
          simp only [List.mapM_cons, Sem.run_bind, h0, Sem.run_pure, Result.andThen_ok, k5, h3]
        · cases h
      · cases h
    · cases h
end
end Go.Proofs.YtnenfgpjedddoaaGreat.AI
