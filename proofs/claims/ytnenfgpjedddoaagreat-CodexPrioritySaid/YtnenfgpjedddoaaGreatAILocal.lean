/- What an operation looks at: slots and objects. It does the same wherever these are the same. -/
import Derived.Test.YtnenfgpjedddoaaGreatAICall
set_option linter.unusedVariables false
set_option linter.unusedSectionVars false
set_option linter.unusedSimpArgs false
namespace Go.Proofs.YtnenfgpjedddoaaGreat.AI
open Go

variable {K : Type} [DecidableEq K] {T : K → Type} {E : Env T} {P : Program}

section
variable {fr fr' : Fr T}
theorem partsV_congr (ft : Nat → Nat) : ∀ (l : List (Nat × Operand)), (∀ p ∈ l, evalO fr p.2 = evalO fr' p.2) → partsV E fr ft l = partsV E fr' ft l
  | [], _ => rfl
  | (i, x) :: l, h => by
    simp only [partsV]
    rw [h (i, x) (List.mem_cons_self ..), partsV_congr ft l fun p hp => h p (List.mem_cons_of_mem _ hp)]
theorem argsV_congr : ∀ (l : List Operand) (ts : List Nat), (∀ x ∈ l, evalO fr x = evalO fr' x) → argsV E fr l ts = argsV E fr' l ts
  | [], _, _ => by simp only [argsV]
  | x :: l, [], h => by
    simp only [argsV]
    rw [h x (List.mem_cons_self ..), argsV_congr l [] fun p hp => h p (List.mem_cons_of_mem _ hp)]
  | x :: l, t :: ts, h => by
    simp only [argsV]
    rw [h x (List.mem_cons_self ..), argsV_congr l ts fun p hp => h p (List.mem_cons_of_mem _ hp)]
theorem evals_congr : ∀ (l : List Operand), (∀ x ∈ l, evalO fr x = evalO fr' x) → evals fr l = evals fr' l
  | [], _ => rfl
  | x :: l, h => by
    simp only [evals]
    rw [h x (List.mem_cons_self ..), evals_congr l fun p hp => h p (List.mem_cons_of_mem _ hp)]
theorem bound_congr (d : Int) (x : Option Operand) (h : ∀ y ∈ x, evalO fr y = evalO fr' y) : bound fr d x = bound fr' d x := by
  cases x with
  | none => rfl
  | some y => simp only [bound]; rw [h y rfl]
theorem opAct_congr (o : Oper) (h : ∀ x ∈ o.op.operands, evalO fr x = evalO fr' x) : opAct E fr o = opAct E fr' o := by
  obtain ⟨dst, op, type, pos, after, guard⟩ := o
  cases op <;> simp only [Op.operands] at h <;> simp only [opAct]
  case build t ps =>
    have : ∀ ft, partsV E fr ft ps.toList = partsV E fr' ft ps.toList := fun ft => partsV_congr ft _ fun p hp => h p.2 (by simp only [List.mem_toArray, List.mem_map]; exact ⟨p, hp, rfl⟩)
    simp only [buildA, this]
  case buildSlice t n ps =>
    have : ∀ ft, partsV E fr ft ps.toList = partsV E fr' ft ps.toList := fun ft => partsV_congr ft _ fun p hp => h p.2 (by simp only [List.mem_toArray, List.mem_map]; exact ⟨p, hp, rfl⟩)
    simp only [buildSliceA, this]
  case makeFunc fn first captured =>
    cases fn <;> simp only
    rw [makeFuncA, makeFuncA, evals_congr first.toList fun x hx => h x (by simp [Array.mem_toList_iff.1 hx]), evals_congr captured.toList fun x hx => h x (by simp [Array.mem_toList_iff.1 hx])]
  case call c =>
    have ha : argsV E fr c.args.toList c.argTypes.toList = argsV E fr' c.args.toList c.argTypes.toList := argsV_congr _ _ fun x hx => h x (by simp [Call.operands, Array.mem_toList_iff.1 hx])
    cases hc : c.callee with
    | value f =>
      have hf : evalO fr f = evalO fr' f := h f (by simp [Call.operands, hc])
      simp only [callA, hc, ha, hf]
    | invoke r m => simp only [callA, hc]
    | builtin b => simp only [callA, hc, ha]
  case makeMap t r =>
    cases r with
    | none => rfl
    | some x => simp only [makeMapA]; rw [h x (by simp)]
  case slice t x lo hi mx =>
    have h1 : bound fr 0 lo = bound fr' 0 lo := bound_congr _ _ fun y hy => h y (by cases lo <;> simp_all)
    have h2 : ∀ d, bound fr d hi = bound fr' d hi := fun d => bound_congr _ _ fun y hy => h y (by cases hi <;> simp_all)
    have h3 : bound fr 0 mx = bound fr' 0 mx := bound_congr _ _ fun y hy => h y (by cases mx <;> simp_all)
    have h4 : evalO fr x = evalO fr' x := h x (by simp)
    cases mx with
    | none =>
      unfold sliceA
      rw [h4]
      cases E.ty t <;> try rfl
      all_goals
        rcases evalO fr' x with _ | v
        · rfl
        · cases v <;> simp only [h1, h2]
    | some m =>
      unfold sliceA
      rw [h4]
      cases E.ty t <;> try rfl
      all_goals
        rcases evalO fr' x with _ | v
        · rfl
        · cases v <;> simp only [h1, h2, h3]
  case next x b =>
    cases b
    · rfl
    · simp only [nextA]; rw [h x (by simp)]
  case move x => simp only [moveA]; rw [h x (by simp)]
  case assign x => simp only [moveA]; rw [h x (by simp)]
  case pick c x y => simp only [pickA]; rw [h c (by simp), h x (by simp), h y (by simp)]
  case box t x => simp only [boxA]; rw [h x (by simp)]
  case load t x => simp only [loadA]; rw [h x (by simp)]
  case store t x y => simp only [storeA]; rw [h x (by simp), h y (by simp)]
  case nilCheck x => simp only [nilCheckA]; rw [h x (by simp)]
  case binOp op t x y u => simp only [binOpA]; rw [h x (by simp), h y (by simp)]
  case unOp op t x => simp only [unOpA]; rw [h x (by simp)]
  case convert s d x => simp only [convertA]; rw [h x (by simp)]
  case makeSlice t l c => simp only [makeSliceA]; rw [h l (by simp), h c (by simp)]
  case fieldAddr t x f => simp only [fieldAddrA]; rw [h x (by simp)]
  case field t x f => simp only [fieldA]; rw [h x (by simp)]
  case indexAddr t x y => simp only [indexAddrA]; rw [h x (by simp), h y (by simp)]
  case index t x y => simp only [indexA]; rw [h x (by simp), h y (by simp)]
  case lookup t x y ok => simp only [lookupA]; rw [h x (by simp), h y (by simp)]
  case mapUpdate t x y z => simp only [mapUpdateA]; rw [h x (by simp), h y (by simp), h z (by simp)]
  case mapEntry t x y => simp only [mapEntryA]; rw [h x (by simp), h y (by simp)]
  case entryStore t x y z => simp only [entryStoreA]; rw [h x (by simp), h y (by simp), h z (by simp)]
  case range t x => simp only [rangeA]; rw [h x (by simp)]
  case extract x j => simp only [extractA]; rw [h x (by simp)]
  case alloc t => rfl
theorem evalO_congr {x : Operand} (h : ∀ t, x = .tmp t → Fr.get fr t = Fr.get fr' t) : evalO fr x = evalO fr' x := by
  cases x with
  | tmp t => exact h t rfl
  | _ => rfl
end

/-! ### Rows that are alike where it matters -/
def AlikeOn (l : List Nat) (st st' : List (Ob T)) : Prop := ∀ i ∈ l, st'[i]? = st[i]?
mutual
theorem vers0_congr {st st' : List (Ob T)} : ∀ (v : V T) (acc : List Nat), AlikeOn (v.uses acc) st st' → vers0 st' v = vers0 st v := fun v acc h => by
  cases v with
  | sl e xs o =>
    cases o with
    | tok i ver =>
      have : st'[i]? = st[i]? := h i (by
        simp only [V.uses]
        unfold addTo
        split
        · exact has_iff.1 ‹_›
        · simp)
      simp only [vers0, this]
    | _ => simp only [vers0]
  | agg cs => simp only [vers0]; rw [vers0s_congr cs acc (by simpa [V.uses] using h)]
  | fn f a c =>
    simp only [vers0]
    simp only [V.uses] at h
    rw [vers0s_congr c _ h, vers0s_congr a acc fun i hi => h i (by
      obtain ⟨l, hl⟩ := V.usess_pre c (V.uses.usess acc a)
      rw [hl]; exact List.mem_append_left _ hi)]
  | ifc t v => simp only [vers0]; rw [vers0_congr v acc (by simpa [V.uses] using h)]
  | tup cs => simp only [vers0]; rw [vers0s_congr cs acc (by simpa [V.uses] using h)]
  | stamp i k => simp only [vers0]; rw [vers0_congr k (addTo acc i) (by simpa [V.uses] using h)]
  | _ => simp only [vers0]
theorem vers0s_congr {st st' : List (Ob T)} : ∀ (vs : List (V T)) (acc : List Nat), AlikeOn (V.uses.usess acc vs) st st' → vers0.vers0s st' vs = vers0.vers0s st vs
  | [], _, _ => by simp only [vers0.vers0s]
  | v :: vs, acc, h => by
    simp only [V.uses.usess] at h
    simp only [vers0.vers0s]
    rw [vers0s_congr vs _ h, vers0_congr v acc fun i hi => h i (by
      obtain ⟨l, hl⟩ := V.usess_pre vs (v.uses acc)
      rw [hl]; exact List.mem_append_left _ hi)]
end
theorem addTo_sub {acc R : List Nat} {i : Nat} (h : ∀ j ∈ addTo acc i, j ∈ R) : (∀ j ∈ acc, j ∈ R) ∧ i ∈ R := by
  obtain ⟨l, hl⟩ := addTo_pre acc i
  refine ⟨fun j hj => h j (by rw [hl]; exact List.mem_append_left _ hj), h i ?_⟩
  unfold addTo
  split
  · exact has_iff.1 ‹_›
  · simp
/-- The walk through the objects finds the same ones. -/
theorem reach_congr {st st' : List (Ob T)} : ∀ (n : Nat) (todo acc : List Nat), (∀ i ∈ todo, i ∈ reach st n todo acc) → AlikeOn (reach st n todo acc) st st' → reach st' n todo acc = reach st n todo acc
  | 0, _, _, _, _ => by simp only [reach]
  | n + 1, [], acc, _, _ => by simp only [reach]
  | n + 1, i :: todo, acc, ht, h => by
    have hi := h i (ht i (List.mem_cons_self ..))
    simp only [reach] at ht h ⊢
    rw [hi]
    cases hst : st[i]? with
    | none =>
      rw [hst] at ht h
      dsimp only at ht h ⊢
      exact reach_congr n _ _ (fun j hj => ht j (List.mem_cons_of_mem _ hj)) h
    | some ob =>
      rw [hst] at ht h
      dsimp only at ht h ⊢
      refine reach_congr n _ _ (fun j hj => ?_) h
      rcases List.mem_append.1 hj with hj | hj
      · exact ht j (List.mem_cons_of_mem _ hj)
      · obtain ⟨l, hl⟩ := reach_pre (st := st) n (todo ++ (ob.uses acc).drop acc.length) (ob.uses acc)
        rw [hl]
        exact List.mem_append_left _ (List.mem_of_mem_drop hj)
theorem closure_pre (st : List (Ob T)) (acc : List Nat) : ∃ l, closure st acc = acc ++ l := reach_pre _ _ _
theorem closure_congr {st st' : List (Ob T)} {acc : List Nat} (h : AlikeOn (closure st acc) st st') : closure st' acc = closure st acc :=
  reach_congr _ _ _ (fun i hi => by
    obtain ⟨l, hl⟩ := closure_pre st acc
    show i ∈ closure st acc
    rw [hl]; exact List.mem_append_left _ hi) h
theorem obsAt_congr {f : Nat → Option Nat} {h : Nat → Nat} {st st' : List (Ob T)} : ∀ {ids : List Nat}, AlikeOn ids st st' → obsAt st' f h ids = obsAt st f h ids
  | [], _ => rfl
  | i :: is, ha => by
    simp only [obsAt]
    rw [ha i (List.mem_cons_self ..), obsAt_congr fun j hj => ha j (List.mem_cons_of_mem _ hj)]
end Go.Proofs.YtnenfgpjedddoaaGreat.AI
