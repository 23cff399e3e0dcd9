/- Each operation does what the abstract interpreter says: those that give a value and leave the objects alone. -/
import Derived.Test.YtnenfgpjedddoaaGreatAIWorld
set_option linter.unusedVariables false
set_option linter.unusedSectionVars false
namespace Go.Proofs.YtnenfgpjedddoaaGreat.AI
open Go

variable {K : Type} [DecidableEq K] {T : K → Type} {E : Env T} {P : Program}

/-- From this world and these objects to those. -/
structure To (E : Env T) (g : Gh) (w : World) (g' : Gh) (st' : List (Ob T)) (w' : World) : Prop where
  le : g.Le g'
  inv : Inv E g' st' w'
  ext : Ext g g' w w'
theorem To.refl {g : Gh} {st : List (Ob T)} {w : World} (hi : Inv E g st w) : To E g w g st w := ⟨.refl _, hi, .refl _ _⟩
theorem To.trans {g g' g'' : Gh} {st' st'' : List (Ob T)} {w w' w'' : World} (h : To E g w g' st' w') (k : To E g' w' g'' st'' w'') : To E g w g'' st'' w'' :=
  ⟨h.le.trans k.le, k.inv, h.ext.trans k.ext⟩

/-- The operation's run ends with this value, in a world that goes with these objects. -/
def Gives (E : Env T) (g : Gh) (w : World) (r : Result Next) (st' : List (Ob T)) (v : V T) : Prop :=
  ∃ g' w' x, r = .ok (.value x) w' ∧ To E g w g' st' w' ∧ Rep E g' v x
def Skips (E : Env T) (g : Gh) (w : World) (r : Result Next) (st' : List (Ob T)) : Prop :=
  ∃ g' w', r = .ok .skip w' ∧ To E g w g' st' w'
theorem Gives.here {g : Gh} {st : List (Ob T)} {w : World} {r : Result Next} {v : V T} {x : Value} (hi : Inv E g st w) (hr : r = .ok (.value x) w) (h : Rep E g v x) : Gives E g w r st v :=
  ⟨g, w, x, hr, .refl hi, h⟩

def SoundAsk (P : Program) (E : Env T) (g : Gh) (st : List (Ob T)) (w : World) (r : Result Next) : Ask T → Prop
  | .val v => Gives E g w r st v
  | .need b v => b = true → Gives E g w r st v
  | .fork b v u => Gives E g w r st u ∨ (b = true ∧ Gives E g w r st v)
  | .rd i k => ∀ ob v, st[i]? = some ob → k ob = some (true, v) → Gives E g w r st v
  | .wr i k => ∀ ob ob' v, st[i]? = some ob → k ob = some (true, ob', v) → (match v with
    | some v => Gives E g w r (st.set i ob') v
    | none => Skips E g w r (st.set i ob'))
  | .new b ob mk => b = true → ∀ p, st[p]? = some .dead → Gives E g w r (st.set p ob) (mk p)
  | .call f args => ∃ xs, Reps E g args xs ∧ (∀ fn, P.funcs[f]? = some fn → fn.body.isSome = true → fn.name ≠ "runtime.NumGoroutine" → r = .ok (.enter f ⟨xs⟩) w)

section
variable {g : Gh} {st : List (Ob T)} {w : World} {fr : Fr T} {a : Act} (o : Oper)

theorem move_ok {x : Operand} (hi : Inv E g st w) (hf : FrOk E g fr a.tmps) {k : Ask T} (h : moveA E fr o x = some k) (hop : o.op = .move x ∨ o.op = .assign x) :
    SoundAsk P E g st w ((execOp a.eval o).run P w) k := by
  unfold moveA at h
  cases hx : evalO fr x with
  | none => simp [hx] at h
  | some v =>
    simp only [hx, Option.map_some, Option.some.injEq] at h
    subst h
    refine .here hi ?_ ((evalO_ok hf hx).coerce o.type)
    rcases hop with hop | hop <;> simp [execOp, hop]

theorem Rep.bool_inv {g : Gh} {b : Bool} {x : Value} (h : Rep E g (.bool b) x) : x = .bool b := by
  cases h with
  | fc h => cases h; rfl
theorem Rep.int_inv {g : Gh} {k : IntKind} {n : Int} {x : Value} (h : Rep E g (.int k n) x) : x = .int k n := by
  cases h with
  | fc h => cases h; rfl
theorem Rep.str_inv {g : Gh} {s : List UInt8} {x : Value} (h : Rep E g (.str s) x) : x = .string ⟨⟨s⟩⟩ := by
  cases h with
  | fc h => cases h; rfl
theorem Rep.int (g : Gh) (k : IntKind) (n : Int) : Rep E g (.int k n) (.int k n) := .fc (.int k n)
theorem Rep.bool (g : Gh) (b : Bool) : Rep E g (.bool b) (.bool b) := .fc (.bool b)
theorem Rep.str (g : Gh) (s : List UInt8) : Rep E g (.str s) (.string ⟨⟨s⟩⟩) := .fc (.str s)

theorem pickV_ok {c : Bool} {x y v : V T} {p q : Value} (hx : Rep E g x p) (hy : Rep E g y q) (h : pickV c x y = some v) : Rep E g v (if c = true then p else q) := by
  unfold pickV at h
  split at h
  · simp only [Option.some.injEq] at h
    subst h
    have := hx.bool_inv; have := hy.bool_inv; subst_vars; cases c <;> exact .bool _ _
  · split at h
    · rename_i hk
      have hk' := eq_of_beq hk
      subst hk'
      simp only [Option.some.injEq] at h
      subst h
      have := hx.int_inv; have := hy.int_inv; subst_vars; cases c <;> exact .int _ _ _
    · cases h
  · simp only [Option.some.injEq] at h
    subst h
    have := hx.str_inv; have := hy.str_inv; subst_vars; cases c <;> exact .str _ _
  · cases h

theorem pick_ok {c x y : Operand} (hi : Inv E g st w) (hf : FrOk E g fr a.tmps) {k : Ask T} (h : pickA E fr o c x y = some k) (hop : o.op = .pick c x y) :
    SoundAsk P E g st w ((execOp a.eval o).run P w) k := by
  unfold pickA at h
  split at h
  · rename_i cb xv yv hc hx hy
    have hcv := (evalO_ok hf hc).bool_inv
    have hxv := evalO_ok hf hx
    have hyv := evalO_ok hf hy
    have hrun : (execOp a.eval o).run P w = .ok (.value (if cb = true then a.eval x else a.eval y)) w := by
      simp [execOp, hop, hcv, asBool]
    split at h
    · simp only [Option.some.injEq] at h
      subst h
      intro hn
      simp only [Bool.not_eq_true'] at hn
      subst hn
      exact .here hi (by simpa using hrun) (hyv.coerce _)
    · simp only [Option.some.injEq] at h
      subst h
      intro hn
      subst hn
      exact .here hi (by simpa using hrun) (hxv.coerce _)
    · cases hp : pickV cb (coerce E o.type xv) (coerce E o.type yv) with
      | none => simp [hp] at h
      | some v =>
        simp only [hp, Option.map_some, Option.some.injEq] at h
        subst h
        exact .here hi hrun (pickV_ok (hxv.coerce _) (hyv.coerce _) hp)
  · cases h

theorem nilCheck_ok {x : Operand} (hi : Inv E g st w) (hf : FrOk E g fr a.tmps) {k : Ask T} (h : nilCheckA fr o x = some k) (hop : o.op = .nilCheck x) :
    SoundAsk P E g st w ((execOp a.eval o).run P w) k := by
  unfold nilCheckA at h
  have fin : ∀ {v : V T}, Rep E g v (a.eval x) → (execOp a.eval o).run P w = .ok (.value (a.eval x)) w → SoundAsk P E g st w ((execOp a.eval o).run P w) (.val v) := fun hv hr => .here hi hr hv
  split at h
  · rename_i hx
    simp only [Option.some.injEq] at h
    subst h
    have hv := evalO_ok hf hx
    refine fin hv ?_
    generalize hq : a.eval x = q at hv
    cases hv with
    | fc h => cases h
    | ptr h => simp [execOp, hop, hq]
  · rename_i hx
    simp only [Option.some.injEq] at h
    subst h
    have hv := evalO_ok hf hx
    refine fin hv ?_
    generalize hq : a.eval x = q at hv
    cases hv with
    | fc h => cases h
    | adr h => simp [execOp, hop, hq]
  · rename_i hx
    simp only [Option.some.injEq] at h
    subst h
    have hv := evalO_ok hf hx
    refine fin hv ?_
    generalize hq : a.eval x = q at hv
    cases hv with
    | fc h => cases h
    | elt h => simp [execOp, hop, hq]
  · rename_i hx
    simp only [Option.some.injEq] at h
    subst h
    have hv := evalO_ok hf hx
    refine fin hv ?_
    generalize hq : a.eval x = q at hv
    cases hv with
    | fc h => cases h
    | fn h => simp [execOp, hop, hq]
  · cases h

theorem extract_ok {x : Operand} {j : Nat} (hi : Inv E g st w) (hf : FrOk E g fr a.tmps) {k : Ask T} (h : extractA fr o x j = some k) (hop : o.op = .extract x j) :
    SoundAsk P E g st w ((execOp a.eval o).run P w) k := by
  unfold extractA at h
  split at h
  · rename_i vs hx
    split at h
    · rename_i v hv
      simp only [Option.some.injEq] at h
      subst h
      have ht := evalO_ok hf hx
      generalize hq : a.eval x = q at ht
      cases ht with
      | fc h => cases h
      | tup hs =>
        obtain ⟨y, h1, h2⟩ := hs.get hv
        exact .here hi (x := y) (by simp [execOp, hop, hq, Instr.extract, h1]) h2
    · cases h
  · cases h

theorem unOp_ok {op : UnOp} {t : Nat} {x : Operand} (hi : Inv E g st w) (hf : FrOk E g fr a.tmps) {k : Ask T} (h : unOpA fr o op x = some k) (hop : o.op = .unOp op t x) :
    SoundAsk P E g st w ((execOp a.eval o).run P w) k := by
  unfold unOpA at h
  cases hx : evalO fr x with
  | none => simp [hx] at h
  | some v =>
    simp only [hx] at h
    have hv := evalO_ok hf hx
    unfold unV at h
    split at h <;> simp only [Option.map_some, Option.map_none, Option.some.injEq, reduceCtorEq] at h <;> subst h
    · refine .here hi ?_ (.int _ _ _)
      simp [execOp, hop, hv.int_inv, Op.unary, Op.intArith]
    · refine .here hi ?_ (.bool _ _)
      simp [execOp, hop, hv.bool_inv, Op.unary]

theorem convert_ok (hE : EnvOk P E) {src dst : Nat} {x : Operand} (hi : Inv E g st w) (hf : FrOk E g fr a.tmps) {k : Ask T} (h : convertA E fr o src dst x = some k) (hop : o.op = .convert src dst x) :
    SoundAsk P E g st w ((execOp a.eval o).run P w) k := by
  unfold convertA at h
  have hs := hE.ty src
  have hd := hE.ty dst
  split at h
  · rename_i k1 k2 k3 n h1 h2 h3
    simp only [Option.some.injEq] at h
    subst h
    rw [h1] at hs
    rw [h2] at hd
    refine .here hi ?_ (.int _ _ _)
    simp [execOp, hop, (evalO_ok hf h3).int_inv, convert, run_underlying hs.1, run_underlying hd.1, Conv.intToInt]
  · rename_i s h1 h2 h3
    simp only [Option.some.injEq] at h
    subst h
    rw [h1] at hs
    rw [h2] at hd
    refine .here hi ?_ (.str _ _)
    simp [execOp, hop, (evalO_ok hf h3).str_inv, convert, run_underlying hs.1, run_underlying hd.1]
  · cases h

theorem makeFunc_ok {f : Nat} {first captured : Array Operand} (hi : Inv E g st w) (hf : FrOk E g fr a.tmps) {k : Ask T} (h : makeFuncA fr o f first captured = some k)
    (hop : o.op = .makeFunc (.func f) first captured) : SoundAsk P E g st w ((execOp a.eval o).run P w) k := by
  have evals_ok : ∀ (l : List Operand) (vs : List (V T)), evals fr l = some vs → Reps E g vs (l.map a.eval) := by
    intro l
    induction l with
    | nil => intro vs h; simp only [evals, Option.some.injEq] at h; subst h; exact .nil
    | cons x l ih =>
      intro vs h
      simp only [evals] at h
      split at h
      · rename_i v vs' h1 h2
        simp only [Option.some.injEq] at h
        subst h
        exact .cons (evalO_ok hf h1) (ih _ h2)
      · cases h
  unfold makeFuncA at h
  split at h
  · rename_i as cs h1 h2
    simp only [Option.some.injEq] at h
    subst h
    refine .here hi (x := .func (.func f) (first.map a.eval) (captured.map a.eval)) (by simp [execOp, hop, Instr.makeFunc]) ?_
    have e1 : first.map a.eval = ⟨first.toList.map a.eval⟩ := by apply Array.ext'; simp
    have e2 : captured.map a.eval = ⟨captured.toList.map a.eval⟩ := by apply Array.ext'; simp
    rw [e1, e2]
    exact .fn (evals_ok _ _ h1) (evals_ok _ _ h2)
  · cases h
end
end Go.Proofs.YtnenfgpjedddoaaGreat.AI
