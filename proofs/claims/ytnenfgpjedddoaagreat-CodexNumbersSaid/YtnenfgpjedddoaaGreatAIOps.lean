/- Each operation does what the abstract interpreter says: those that give a value and leave the objects alone. -/
import Derived.Test.YtnenfgpjedddoaaGreatAIRel
import Derived.Laws.Strings
import Derived.Laws.StructEq
import Derived.Laws.MakeOwn
set_option linter.unusedVariables false
set_option linter.unusedSectionVars false
namespace Go.Proofs.YtnenfgpjedddoaaGreat.AI
open Go

variable {K : Type} [DecidableEq K] {T : K → Type} {E : Env T} {P : Program}

/-- From this world and these objects to those. -/
structure To (E : Env T) (g : Gh) (w : World) (g' : Gh) (st' : List (Ob T)) (w' : World) : Prop where
  le : g.Le g'
  inv : Inv E g' st' w'
  ext : Ext g g' w w'
theorem To.refl {g : Gh} {st : List (Ob T)} {w : World} (hi : Inv E g st w) : To E g w g st w := ⟨.refl _, hi, .refl _ _⟩
theorem To.trans {g g' g'' : Gh} {st' st'' : List (Ob T)} {w w' w'' : World} (h : To E g w g' st' w') (k : To E g' w' g'' st'' w'') : To E g w g'' st'' w'' :=
  ⟨h.le.trans k.le, k.inv, h.ext.trans k.ext⟩

/-- The operation's run ends with this value, in a world that goes with these objects. -/
def Gives (E : Env T) (g : Gh) (w : World) (r : Result Next) (st' : List (Ob T)) (v : V T) : Prop :=
  ∃ g' w' x, r = .ok (.value x) w' ∧ To E g w g' st' w' ∧ Rep E g' v x
def Skips (E : Env T) (g : Gh) (w : World) (r : Result Next) (st' : List (Ob T)) : Prop :=
  ∃ g' w', r = .ok .skip w' ∧ To E g w g' st' w'
theorem Gives.here {g : Gh} {st : List (Ob T)} {w : World} {r : Result Next} {v : V T} {x : Value} (hi : Inv E g st w) (hr : r = .ok (.value x) w) (h : Rep E g v x) : Gives E g w r st v :=
  ⟨g, w, x, hr, .refl hi, h⟩

def SoundAsk (P : Program) (E : Env T) (g : Gh) (st : List (Ob T)) (w : World) (r : Result Next) : Ask T → Prop
  | .val v => Gives E g w r st v
  | .need b v => b = true → Gives E g w r st v
  | .fork b v u => Gives E g w r st u ∨ (b = true ∧ Gives E g w r st v)
  | .rd i k => ∀ ob v, st[i]? = some ob → k ob = some (true, v) → Gives E g w r st v
  | .wr i k => ∀ ob ob' v, st[i]? = some ob → k ob = some (true, ob', v) → (match v with
    | some v => Gives E g w r (st.set i ob') v
    | none => Skips E g w r (st.set i ob'))
  | .new b ob mk => b = true → ∀ p, st[p]? = some .dead → Gives E g w r (st.set p ob) (mk p)
  | .call f args => ∃ xs, Reps E g args xs ∧ (∀ fn, P.funcs[f]? = some fn → fn.body.isSome = true → fn.name ≠ "runtime.NumGoroutine" → r = .ok (.enter f ⟨xs⟩) w)

section
variable {g : Gh} {st : List (Ob T)} {w : World} {fr : Fr T} {a : Act} (o : Oper)

theorem move_ok {x : Operand} (hi : Inv E g st w) (hf : FrOk E g fr a.tmps) {k : Ask T} (h : moveA E fr o x = some k) (hop : o.op = .move x ∨ o.op = .assign x) :
    SoundAsk P E g st w ((execOp a.eval o).run P w) k := by
  unfold moveA at h
  cases hx : evalO fr x with
  | none => simp [hx] at h
  | some v =>
    simp only [hx, Option.map_some, Option.some.injEq] at h
    subst h
    refine .here hi ?_ ((evalO_ok hf hx).coerce o.type)
    rcases hop with hop | hop <;> simp [execOp, hop]

theorem Rep.bool_inv {g : Gh} {b : Bool} {x : Value} (h : Rep E g (.bool b) x) : x = .bool b := by
  cases h with
  | fc h => cases h; rfl
theorem Rep.int_inv {g : Gh} {k : IntKind} {n : Int} {x : Value} (h : Rep E g (.int k n) x) : x = .int k n := by
  cases h with
  | fc h => cases h; rfl
theorem Rep.str_inv {g : Gh} {s : List UInt8} {x : Value} (h : Rep E g (.str s) x) : x = .string ⟨⟨s⟩⟩ := by
  cases h with
  | fc h => cases h; rfl
theorem Rep.int (g : Gh) (k : IntKind) (n : Int) : Rep E g (.int k n) (.int k n) := .fc (.int k n)
theorem Rep.bool (g : Gh) (b : Bool) : Rep E g (.bool b) (.bool b) := .fc (.bool b)
theorem Rep.str (g : Gh) (s : List UInt8) : Rep E g (.str s) (.string ⟨⟨s⟩⟩) := .fc (.str s)

theorem pickV_ok {c : Bool} {x y v : V T} {p q : Value} (hx : Rep E g x p) (hy : Rep E g y q) (h : pickV c x y = some v) : Rep E g v (if c = true then p else q) := by
  unfold pickV at h
  split at h
  · simp only [Option.some.injEq] at h
    subst h
    have := hx.bool_inv; have := hy.bool_inv; subst_vars; cases c <;> exact .bool _ _
  · split at h
    · rename_i hk
      have hk' := eq_of_beq hk
      subst hk'
      simp only [Option.some.injEq] at h
      subst h
      have := hx.int_inv; have := hy.int_inv; subst_vars; cases c <;> exact .int _ _ _
    · cases h
  · simp only [Option.some.injEq] at h
    subst h
    have := hx.str_inv; have := hy.str_inv; subst_vars; cases c <;> exact .str _ _
  · cases h

theorem pick_ok {c x y : Operand} (hi : Inv E g st w) (hf : FrOk E g fr a.tmps) {k : Ask T} (h : pickA E fr o c x y = some k) (hop : o.op = .pick c x y) :
    SoundAsk P E g st w ((execOp a.eval o).run P w) k := by
  unfold pickA at h
  split at h
  · rename_i cb xv yv hc hx hy
    have hcv := (evalO_ok hf hc).bool_inv
    have hxv := evalO_ok hf hx
    have hyv := evalO_ok hf hy
    have hrun : (execOp a.eval o).run P w = .ok (.value (if cb = true then a.eval x else a.eval y)) w := by
      simp [execOp, hop, hcv, asBool]
    split at h
    · simp only [Option.some.injEq] at h
      subst h
      intro hn
      simp only [Bool.not_eq_true'] at hn
      subst hn
      exact .here hi (by simpa using hrun) (hyv.coerce _)
    · simp only [Option.some.injEq] at h
      subst h
      intro hn
      subst hn
      exact .here hi (by simpa using hrun) (hxv.coerce _)
    · cases hp : pickV cb (coerce E o.type xv) (coerce E o.type yv) with
      | none => simp [hp] at h
      | some v =>
        simp only [hp, Option.map_some, Option.some.injEq] at h
        subst h
        exact .here hi hrun (pickV_ok (hxv.coerce _) (hyv.coerce _) hp)
  · cases h

theorem nilCheck_ok {x : Operand} (hi : Inv E g st w) (hf : FrOk E g fr a.tmps) {k : Ask T} (h : nilCheckA fr o x = some k) (hop : o.op = .nilCheck x) :
    SoundAsk P E g st w ((execOp a.eval o).run P w) k := by
  unfold nilCheckA at h
  have fin : ∀ {v : V T}, Rep E g v (a.eval x) → (execOp a.eval o).run P w = .ok (.value (a.eval x)) w → SoundAsk P E g st w ((execOp a.eval o).run P w) (.val v) := fun hv hr => .here hi hr hv
  split at h
  · rename_i hx
    simp only [Option.some.injEq] at h
    subst h
    have hv := evalO_ok hf hx
    refine fin hv ?_
    generalize hq : a.eval x = q at hv
    cases hv with
    | fc h => cases h
    | ptr h => simp [execOp, hop, hq]
  · rename_i hx
    simp only [Option.some.injEq] at h
    subst h
    have hv := evalO_ok hf hx
    refine fin hv ?_
    generalize hq : a.eval x = q at hv
    cases hv with
    | fc h => cases h
    | adr h => simp [execOp, hop, hq]
  · rename_i hx
    simp only [Option.some.injEq] at h
    subst h
    have hv := evalO_ok hf hx
    refine fin hv ?_
    generalize hq : a.eval x = q at hv
    cases hv with
    | fc h => cases h
    | elt h => simp [execOp, hop, hq]
  · rename_i hx
    simp only [Option.some.injEq] at h
    subst h
    have hv := evalO_ok hf hx
    refine fin hv ?_
    generalize hq : a.eval x = q at hv
    cases hv with
    | fc h => cases h
    | fn h => simp [execOp, hop, hq]
  · cases h

theorem extract_ok {x : Operand} {j : Nat} (hi : Inv E g st w) (hf : FrOk E g fr a.tmps) {k : Ask T} (h : extractA fr o x j = some k) (hop : o.op = .extract x j) :
    SoundAsk P E g st w ((execOp a.eval o).run P w) k := by
  unfold extractA at h
  split at h
  · rename_i vs hx
    split at h
    · rename_i v hv
      simp only [Option.some.injEq] at h
      subst h
      have ht := evalO_ok hf hx
      generalize hq : a.eval x = q at ht
      cases ht with
      | fc h => cases h
      | tup hs =>
        obtain ⟨y, h1, h2⟩ := hs.get hv
        exact .here hi (x := y) (by simp [execOp, hop, hq, Instr.extract, h1]) h2
    · cases h
  · cases h

theorem unOp_ok {op : UnOp} {t : Nat} {x : Operand} (hi : Inv E g st w) (hf : FrOk E g fr a.tmps) {k : Ask T} (h : unOpA fr o op x = some k) (hop : o.op = .unOp op t x) :
    SoundAsk P E g st w ((execOp a.eval o).run P w) k := by
  unfold unOpA at h
  cases hx : evalO fr x with
  | none => simp [hx] at h
  | some v =>
    simp only [hx] at h
    have hv := evalO_ok hf hx
    unfold unV at h
    split at h <;> simp only [Option.map_some, Option.map_none, Option.some.injEq, reduceCtorEq] at h <;> subst h
    · refine .here hi ?_ (.int _ _ _)
      simp [execOp, hop, hv.int_inv, Op.unary, Op.intArith]
    · refine .here hi ?_ (.bool _ _)
      simp [execOp, hop, hv.bool_inv, Op.unary]

theorem convert_ok (hE : EnvOk P E) {src dst : Nat} {x : Operand} (hi : Inv E g st w) (hf : FrOk E g fr a.tmps) {k : Ask T} (h : convertA E fr o src dst x = some k) (hop : o.op = .convert src dst x) :
    SoundAsk P E g st w ((execOp a.eval o).run P w) k := by
  unfold convertA at h
  have hs := hE.ty src
  have hd := hE.ty dst
  split at h
  · rename_i k1 k2 k3 n h1 h2 h3
    simp only [Option.some.injEq] at h
    subst h
    rw [h1] at hs
    rw [h2] at hd
    refine .here hi ?_ (.int _ _ _)
    simp [execOp, hop, (evalO_ok hf h3).int_inv, convert, run_underlying hs.1, run_underlying hd.1, Conv.intToInt]
  · rename_i s h1 h2 h3
    simp only [Option.some.injEq] at h
    subst h
    rw [h1] at hs
    rw [h2] at hd
    refine .here hi ?_ (.str _ _)
    simp [execOp, hop, (evalO_ok hf h3).str_inv, convert, run_underlying hs.1, run_underlying hd.1]
  · cases h

theorem makeFunc_ok {f : Nat} {first captured : Array Operand} (hi : Inv E g st w) (hf : FrOk E g fr a.tmps) {k : Ask T} (h : makeFuncA fr o f first captured = some k)
    (hop : o.op = .makeFunc (.func f) first captured) : SoundAsk P E g st w ((execOp a.eval o).run P w) k := by
  have evals_ok : ∀ (l : List Operand) (vs : List (V T)), evals fr l = some vs → Reps E g vs (l.map a.eval) := by
    intro l
    induction l with
    | nil => intro vs h; simp only [evals, Option.some.injEq] at h; subst h; exact .nil
    | cons x l ih =>
      intro vs h
      simp only [evals] at h
      split at h
      · rename_i v vs' h1 h2
        simp only [Option.some.injEq] at h
        subst h
        exact .cons (evalO_ok hf h1) (ih _ h2)
      · cases h
  unfold makeFuncA at h
  split at h
  · rename_i as cs h1 h2
    simp only [Option.some.injEq] at h
    subst h
    refine .here hi (x := .func (.func f) (first.map a.eval) (captured.map a.eval)) (by simp [execOp, hop, Instr.makeFunc]) ?_
    have e1 : first.map a.eval = ⟨first.toList.map a.eval⟩ := by apply Array.ext'; simp
    have e2 : captured.map a.eval = ⟨captured.toList.map a.eval⟩ := by apply Array.ext'; simp
    rw [e1, e2]
    exact .fn (evals_ok _ _ h1) (evals_ok _ _ h2)
  · cases h
end
end Go.Proofs.YtnenfgpjedddoaaGreat.AI

/- Each operation does what the abstract interpreter says: operators and comparisons. -/
set_option linter.unusedVariables false
set_option linter.unusedSectionVars false
set_option linter.unusedSimpArgs false
namespace Go.Proofs.YtnenfgpjedddoaaGreat.AI
open Go

variable {K : Type} [DecidableEq K] {T : K → Type} {E : Env T} {P : Program}
section
variable {g : Gh} {st : List (Ob T)} {w : World} {fr : Fr T} {a : Act} (o : Oper)

theorem byteArray_toList (a : List UInt8) : (⟨⟨a⟩⟩ : ByteArray).toList = a := ByteArray.toList_eq _
theorem byteArray_beq (a b : List UInt8) : ((⟨⟨a⟩⟩ : ByteArray) == ⟨⟨b⟩⟩) = (a == b) := by
  show ((⟨a⟩ : Array UInt8) == ⟨b⟩) = (a == b)
  rw [Bool.eq_iff_iff, beq_iff_eq, beq_iff_eq]
  exact ⟨fun h => by simpa using h, fun h => by rw [h]⟩

def isEq : BinOp → Bool
  | .eql | .neq => true
  | _ => false
/-- The guard of '==' lets by what is no pair of nil interface values. -/
theorem eqGuard_ok {op : BinOp} {t : Nat} {x y : Operand} {p q : Value} (h : isEq op = true → (∀ ps qs, p = .agg ps → q = .agg qs → P.eqGuardType P.depth t = false) ∧ ¬ (p = .nilIface ∧ q = .nilIface)) :
    (eqGuard op t x y p q).run P w = .ok () w := by
  unfold eqGuard
  cases op <;> simp only [isEq, forall_const, Bool.false_eq_true, false_implies] at h <;> first
    | rfl
    | (obtain ⟨h1, h2⟩ := h
       cases p <;> cases q <;> first
        | rfl
        | exact absurd ⟨rfl, rfl⟩ h2
        | (simp [h1 _ _ rfl rfl]; done))
theorem binOp_run {op : BinOp} {t u : Nat} {x y : Operand} (hop : o.op = .binOp op t x y u)
    (h : isEq op = true → (∀ ps qs, a.eval x = .agg ps → a.eval y = .agg qs → P.eqGuardType P.depth t = false) ∧ ¬ (a.eval x = .nilIface ∧ a.eval y = .nilIface)) {v : Value}
    (hb : (binOp op t (a.eval x) (a.eval y)).run P w = .ok v w) : (execOp a.eval o).run P w = .ok (.value v) w := by
  have hg := eqGuard_ok (P := P) (w := w) (x := x) (y := y) h
  simp [execOp, hop, hg, hb]

theorem Rep.nil_slice {e : K} {xs : List (T e)} {p : Value} (h : Rep E g (.sl e xs .nil) p) : p = .slice none 0 0 ∧ xs = [] := by
  cases h with
  | fc h => cases h
  | slnil => exact ⟨rfl, rfl⟩
theorem Rep.nsl_inv {p : Value} (h : Rep E g .nsl p) : p = .slice none 0 0 := by
  cases h with
  | fc h => cases h
  | nsl => rfl
theorem Rep.npt_inv {p : Value} (h : Rep E g .npt p) : p = .pointer none := by
  cases h with
  | fc h => cases h
  | npt => rfl
theorem Rep.nmp_inv {p : Value} (h : Rep E g .nmp p) : p = .map none := by
  cases h with
  | fc h => cases h
  | nmp => rfl
theorem Rep.nfn_inv {p : Value} (h : Rep E g .nfn p) : p = .nilFunc := by
  cases h with
  | fc h => cases h
  | nfn => rfl
theorem Rep.nif_inv {p : Value} (h : Rep E g .nif p) : p = .nilIface := by
  cases h with
  | fc h => cases h
  | nif => rfl
theorem Rep.ptr_inv {i off : Nat} {p : Value} (h : Rep E g (.ptr i off) p) : ∃ b, g.M[i]? = some (.box b) ∧ p = .pointer (some ⟨b, off, none⟩) := by
  cases h with
  | fc h => cases h
  | ptr h => exact ⟨_, h, rfl⟩
theorem Rep.adr_inv {cs : List (V T)} {p : Value} (h : Rep E g (.adr cs) p) : ∃ b off vs, Fcs E g.G cs vs ∧ Fz g.G b off vs ∧ p = .pointer (some ⟨b, off, none⟩) := by
  cases h with
  | fc h => cases h
  | adr a b => exact ⟨_, _, _, a, b, rfl⟩
theorem Rep.elt_inv {i j off : Nat} {p : Value} (h : Rep E g (.elt i j off) p) : ∃ b n sz, g.M[i]? = some (.arr b n sz) ∧ j < n ∧ p = .pointer (some ⟨b, j * sz + off, none⟩) := by
  cases h with
  | fc h => cases h
  | elt h hj => exact ⟨_, _, _, h, hj, rfl⟩
theorem Rep.map_inv {i : Nat} {p : Value} (h : Rep E g (.map i) p) : ∃ r bs, g.M[i]? = some (.map r bs) ∧ p = .map (some r) := by
  cases h with
  | fc h => cases h
  | map h => exact ⟨_, _, h, rfl⟩
theorem Rep.asl_inv {i : Nat} {p : Value} (h : Rep E g (.asl i) p) : ∃ b n sz, g.M[i]? = some (.arr b n sz) ∧ p = .slice (some ⟨b, 0, none⟩) n n := by
  cases h with
  | fc h => cases h
  | asl h => exact ⟨_, _, _, h, rfl⟩
theorem Rep.fn_inv {f : Nat} {as cs : List (V T)} {p : Value} (h : Rep E g (.fn f as cs) p) : ∃ xs ys, Reps E g as xs ∧ Reps E g cs ys ∧ p = .func (.func f) ⟨xs⟩ ⟨ys⟩ := by
  cases h with
  | fc h => cases h
  | fn a b => exact ⟨_, _, a, b, rfl⟩
theorem Rep.ifc_inv {t : Nat} {v : V T} {p : Value} (h : Rep E g (.ifc t v) p) : ∃ x, Rep E g v x ∧ p = .iface t x := by
  cases h with
  | fc h => cases h
  | ifc h => exact ⟨_, h, rfl⟩
theorem Rep.agg_inv {cs : List (V T)} {p : Value} (h : Rep E g (.agg cs) p) : ∃ vs, Reps E g cs vs ∧ One vs ∧ p = .agg ⟨vs⟩ := by
  cases h with
  | fc h => cases h
  | agg h h1 => exact ⟨_, h, h1, rfl⟩
theorem Rep.tup_inv {cs : List (V T)} {p : Value} (h : Rep E g (.tup cs) p) : ∃ vs, Reps E g cs vs ∧ p = .tuple ⟨vs⟩ := by
  cases h with
  | fc h => cases h
  | tup h => exact ⟨_, h, rfl⟩
/-- A list, whoever has the right to what lies behind it. -/
theorem Rep.sl_inv {e : K} {xs : List (T e)} {ow : Own} {p : Value} (h : Rep E g (.sl e xs ow) p) : ∃ ad cap, Fc E g.G (.sl e xs .no) p ∧ p = .slice ad xs.length cap := by
  cases h with
  | fc h => cases h with
    | sl0 => exact ⟨_, _, .sl0 _, rfl⟩
    | sle => exact ⟨_, _, .sle _ _ _, rfl⟩
    | sl _ _ b off cap css hc h hz => exact ⟨_, _, .sl _ _ b off cap css hc h hz, rfl⟩
  | slnil => exact ⟨_, _, .sl0 _, rfl⟩
  | slfull h => cases h with
    | sl0 => exact ⟨_, _, .sl0 _, rfl⟩
    | sle => exact ⟨_, _, .sle _ _ _, rfl⟩
    | sl _ _ b off cap css hc h hz => exact ⟨_, _, .sl _ _ b off _ css hc h hz, rfl⟩
  | sltok h => cases h with
    | sl0 => exact ⟨_, _, .sl0 _, rfl⟩
    | sle => exact ⟨_, _, .sle _ _ _, rfl⟩
    | sl _ _ b off cap css hc h hz => exact ⟨_, _, .sl _ _ b off _ css hc h hz, rfl⟩

theorem eqLeaf_ok {t : Nat} {x y : V T} {p q : Value} {b : Bool} (d : Nat) (ht : TyOk P E t (E.ty t)) (hx : Rep E g x p) (hy : Rep E g y q) (h : eqLeaf (E.ty t) x y = some b) :
    (Op.equalIn (d + 1) t p q).run P w = .ok b w ∧ ¬ (p = .nilIface ∧ q = .nilIface) ∧ (∀ ps, p ≠ .agg ps) := by
  unfold eqLeaf at h
  cases hty : E.ty t <;> rw [hty] at h ht <;> dsimp only at h <;> simp only [TyOk] at ht
  case int k =>
    split at h
    · split at h
      · rename_i k1 _ k2 _ hk
        have hk' := eq_of_beq hk
        subst hk'
        simp only [Option.some.injEq] at h
        subst h
        rw [hx.int_inv, hy.int_inv]
        exact ⟨by simp [Op.equalIn, run_underlying ht.1], by simp, by simp⟩
      · cases h
    · cases h
  case bool =>
    split at h
    · simp only [Option.some.injEq] at h
      subst h
      rw [hx.bool_inv, hy.bool_inv]
      exact ⟨by simp [Op.equalIn, run_underlying ht.1], by simp, by simp⟩
    · cases h
  case str =>
    split at h
    · simp only [Option.some.injEq] at h
      subst h
      rw [hx.str_inv, hy.str_inv]
      exact ⟨by simp [Op.equalIn, run_underlying ht.1, byteArray_beq], by simp, by simp⟩
    · cases h
  case slice =>
    split at h
    · simp only [Option.some.injEq] at h
      subst h
      rw [hx.nil_slice.1, hy.nsl_inv]
      exact ⟨by simp [Op.equalIn, run_underlying ht.1], by simp, by simp⟩
    · simp only [Option.some.injEq] at h
      subst h
      rw [hy.nil_slice.1, hx.nsl_inv]
      exact ⟨by simp [Op.equalIn, run_underlying ht.1], by simp, by simp⟩
    · cases h
  case ptr =>
    split at h <;> simp only [Option.some.injEq, reduceCtorEq] at h <;> subst h
    · rw [hx.npt_inv, hy.npt_inv]
      exact ⟨by simp [Op.equalIn, run_underlying ht.1], by simp, by simp⟩
    · obtain ⟨_, _, rfl⟩ := hx.ptr_inv
      rw [hy.npt_inv]
      exact ⟨by simp [Op.equalIn, run_underlying ht.1], by simp, by simp⟩
    · obtain ⟨_, _, rfl⟩ := hy.ptr_inv
      rw [hx.npt_inv]
      exact ⟨by simp [Op.equalIn, run_underlying ht.1], by simp, by simp⟩
    · obtain ⟨_, _, _, _, _, rfl⟩ := hx.adr_inv
      rw [hy.npt_inv]
      exact ⟨by simp [Op.equalIn, run_underlying ht.1], by simp, by simp⟩
    · obtain ⟨_, _, _, _, _, rfl⟩ := hy.adr_inv
      rw [hx.npt_inv]
      exact ⟨by simp [Op.equalIn, run_underlying ht.1], by simp, by simp⟩
  case map =>
    split at h <;> simp only [Option.some.injEq, reduceCtorEq] at h <;> subst h
    · rw [hx.nmp_inv, hy.nmp_inv]
      exact ⟨by simp [Op.equalIn, run_underlying ht.1], by simp, by simp⟩
    · obtain ⟨_, _, _, rfl⟩ := hx.map_inv
      rw [hy.nmp_inv]
      exact ⟨by simp [Op.equalIn, run_underlying ht.1], by simp, by simp⟩
    · obtain ⟨_, _, _, rfl⟩ := hy.map_inv
      rw [hx.nmp_inv]
      exact ⟨by simp [Op.equalIn, run_underlying ht.1], by simp, by simp⟩
  case func =>
    obtain ⟨⟨ps, rs, v, hu⟩, _⟩ := ht
    split at h <;> simp only [Option.some.injEq, reduceCtorEq] at h <;> subst h
    · rw [hx.nfn_inv, hy.nfn_inv]
      exact ⟨by simp [Op.equalIn, run_underlying hu], by simp, by simp⟩
    · obtain ⟨_, _, _, _, rfl⟩ := hx.fn_inv
      rw [hy.nfn_inv]
      exact ⟨by simp [Op.equalIn, run_underlying hu], by simp, by simp⟩
    · obtain ⟨_, _, _, _, rfl⟩ := hy.fn_inv
      rw [hx.nfn_inv]
      exact ⟨by simp [Op.equalIn, run_underlying hu], by simp, by simp⟩
  case iface =>
    obtain ⟨⟨ms, hu⟩, _⟩ := ht
    split at h <;> simp only [Option.some.injEq, reduceCtorEq] at h <;> subst h
    · obtain ⟨_, _, rfl⟩ := hy.ifc_inv
      rw [hx.nif_inv]
      exact ⟨by simp [Op.equalIn, run_underlying hu], by simp, by simp⟩
    · obtain ⟨_, _, rfl⟩ := hx.ifc_inv
      rw [hy.nif_inv]
      exact ⟨by simp [Op.equalIn, run_underlying hu], by simp, by simp⟩
  case struct => cases h
  case array => cases h
  case other => cases h
end
end Go.Proofs.YtnenfgpjedddoaaGreat.AI

/- Each operation does what the abstract interpreter says: '==' of structs, arithmetic, comparisons. -/
set_option linter.unusedVariables false
set_option linter.unusedSectionVars false
set_option linter.unusedSimpArgs false
namespace Go.Proofs.YtnenfgpjedddoaaGreat.AI
open Go

variable {K : Type} [DecidableEq K] {T : K → Type} {E : Env T} {P : Program}
section
variable {g : Gh} {st : List (Ob T)} {w : World} {fr : Fr T} {a : Act} (o : Oper)

/-- One field's part of a row of cells. -/
theorem part_ok (hE : EnvOk P E) {u o : Nat} {vs : List Value} (hk : (E.ty u).known = true) (hn : o + E.size u ≤ vs.length) :
    ∃ p, (part u ⟨vs⟩ o).run P w = .ok p w ∧ CellsOf E u p ((vs.drop o).take (E.size u)) := by
  have hty := hE.ty u
  have agg : ∀ d, P.underlying u = some d → dAgg d = true → Sized P E u → (E.ty u).agg = true → ∃ p, (part u ⟨vs⟩ o).run P w = .ok p w ∧ CellsOf E u p ((vs.drop o).take (E.size u)) := fun d hu ha ⟨i, hi, hs⟩ hagg => by
    refine ⟨.agg ⟨(vs.drop o).take (E.size u)⟩, ?_, by simp [CellsOf, hagg]⟩
    unfold part
    simp only [Sem.run_bind, run_isAgg hu, ha, Result.andThen_ok, if_true, run_sizeOf' hi, hs]
    have : (⟨vs⟩ : Array Value).extract o (o + E.size u) = ⟨(vs.drop o).take (E.size u)⟩ := by
      apply Array.ext'
      simp [List.take_drop]
    rw [this]
    rfl
  have one : ∀ d, P.underlying u = some d → dAgg d = false → E.cts u = [u] → (E.ty u).agg = false → ∃ p, (part u ⟨vs⟩ o).run P w = .ok p w ∧ CellsOf E u p ((vs.drop o).take (E.size u)) := fun d hu ha hc hagg => by
    have h1 : E.size u = 1 := by simp [Env.size, hc]
    have ho : o < vs.length := by omega
    refine ⟨vs[o], ?_, ?_⟩
    · unfold part
      simp only [Sem.run_bind, run_isAgg hu, ha, Result.andThen_ok, Bool.false_eq_true, if_false]
      have : (⟨vs⟩ : Array Value)[o]? = some vs[o] := by simp [ho]
      rw [this]
      rfl
    · simp only [CellsOf, hagg, h1]
      rw [List.take_one, List.head?_drop]
      simp [ho]
  cases ht : E.ty u <;> simp only [ht] at hty hk
  case int => exact one _ hty.1 rfl hty.2.2 (by rw [ht]; rfl)
  case bool => exact one _ hty.1 rfl hty.2.2 (by rw [ht]; rfl)
  case str => exact one _ hty.1 rfl hty.2.2 (by rw [ht]; rfl)
  case slice => exact one _ hty.1 rfl hty.2.2 (by rw [ht]; rfl)
  case ptr => exact one _ hty.1 rfl hty.2.2 (by rw [ht]; rfl)
  case map => exact one _ hty.1 rfl hty.2.2 (by rw [ht]; rfl)
  case func => obtain ⟨⟨_, _, _, hu⟩, h2⟩ := hty; exact one _ hu rfl h2.2 (by rw [ht]; rfl)
  case iface => obtain ⟨⟨_, hu⟩, h2⟩ := hty; exact one _ hu rfl h2.2 (by rw [ht]; rfl)
  case struct => obtain ⟨⟨_, hu, _⟩, hs, _⟩ := hty; exact agg _ hu rfl hs (by rw [ht]; rfl)
  case array => exact agg _ hty.1 rfl hty.2.1 (by rw [ht]; rfl)
  case other => cases hk

theorem eqT_known {d t : Nat} {xs ys : List (V T)} {b : Bool} (h : eqT E d t xs ys = some b) : (E.ty t).known = true := by
  cases d with
  | zero => simp [eqT] at h
  | succ d =>
    unfold eqT at h
    cases ht : E.ty t <;> rw [ht] at h <;> first | rfl | (cases h; done)
theorem fieldsOf_eq {t : Nat} {fields : Array Field} (h : P.underlying t = some (.struct fields)) : P.fieldsOf t = fields := by
  simp [Program.fieldsOf, h]

theorem eq_ok (hE : EnvOk P E) : ∀ (d : Nat),
    (∀ (t : Nat) (xs ys : List (V T)) (b : Bool) (vs us : List Value) (p q : Value) (D : Nat), eqT E d t xs ys = some b → Reps E g xs vs → Reps E g ys us → CellsOf E t p vs → CellsOf E t q us → d ≤ D →
      (Op.equalIn D t p q).run P w = .ok b w) ∧
    (∀ (fs : List Field) (xs ys : List (V T)) (b : Bool) (vs us : List Value) (D : Nat), eqF E d (fs.map fun f => (f.type, f.offset)) xs ys = some b → Reps E g xs vs → Reps E g ys us → d ≤ D →
      (∀ f ∈ fs, f.name ≠ "_") → (Op.eqFields D ⟨vs⟩ ⟨us⟩ fs).run P w = .ok b w) := by
  intro d
  induction d with
  | zero =>
    refine ⟨fun t xs ys b vs us p q D h => by simp [eqT] at h, fun fs xs ys b vs us D h hx hy hD hn => ?_⟩
    cases fs with
    | nil => simp only [List.map_nil, eqF, Option.some.injEq] at h; subst h; rfl
    | cons f fs => simp [eqF] at h
  | succ d ih =>
    obtain ⟨ih1, ih2⟩ := ih
    constructor
    · intro t xs ys b vs us p q D h hx hy hp hq hD
      obtain ⟨D, rfl⟩ : ∃ D', D = D' + 1 := ⟨D - 1, by omega⟩
      have hty := hE.ty t
      unfold eqT at h
      have leaf : ∀ (k : Ty K), E.ty t = k → k.agg = false → (match (generalizing := false) xs, ys with | [x], [y] => eqLeaf k x y | _, _ => none) = some b → (Op.equalIn (D + 1) t p q).run P w = .ok b w := fun k hk hag h => by
        simp only [CellsOf, hk, hag] at hp hq
        subst hp; subst hq
        cases hx with
        | cons hx1 hx2 =>
          cases hx2
          cases hy with
          | cons hy1 hy2 =>
            cases hy2
            dsimp only at h
            rw [← hk] at h
            exact (eqLeaf_ok D hty hx1 hy1 h).1
      cases ht : E.ty t <;> rw [ht] at h <;> dsimp only at h
      case int k => exact leaf _ ht rfl h
      case bool => exact leaf _ ht rfl h
      case str => exact leaf _ ht rfl h
      case struct fs =>
        rw [ht] at hty
        obtain ⟨⟨fields, hu, hfs, hnm⟩, hsz, hst, hg, _⟩ := hty
        simp only [CellsOf, ht, Ty.agg] at hp hq
        subst hp; subst hq
        rw [run_equalIn_struct w D t _ _ (by rw [fieldsOf_eq hu]; exact hu) hst, fieldsOf_eq hu]
        rw [hfs] at h
        refine ih2 fields.toList xs ys b vs us D h hx hy (by omega) fun f hf => ?_
        have := Array.all_eq_true_iff_forall_mem.1 hnm f (by simpa using hf)
        simpa using this
      all_goals cases h
    · intro fs xs ys b vs us D h hx hy hD hn
      cases fs with
      | nil => simp only [List.map_nil, eqF, Option.some.injEq] at h; subst h; rfl
      | cons f fs =>
        simp only [List.map_cons, eqF] at h
        split at h
        case h_2 => cases h
        rename_i hlen
        simp only [Bool.and_eq_true] at hlen
        have hl1 := Nat.le_of_ble_eq_true hlen.1
        have hl2 := Nat.le_of_ble_eq_true hlen.2
        have hl3 := hx.length
        have hl4 := hy.length
        split at h
        · rename_i a1 b1 ha hb
          simp only [Option.some.injEq] at h
          subst h
          have hk := eqT_known ha
          have hlx : f.offset + E.size f.type ≤ vs.length := by omega
          have hly : f.offset + E.size f.type ≤ us.length := by omega
          obtain ⟨p1, hp1, hp2⟩ := part_ok (P := P) (w := w) hE (vs := vs) (o := f.offset) hk hlx
          obtain ⟨q1, hq1, hq2⟩ := part_ok (P := P) (w := w) hE (vs := us) (o := f.offset) hk hly
          have he := ih1 f.type _ _ a1 _ _ p1 q1 D ha ((hx.drop f.offset).take (E.size f.type)) ((hy.drop f.offset).take (E.size f.type)) hp2 hq2 (by omega)
          have hr := ih2 fs xs ys b1 vs us D hb hx hy (by omega) (fun f' hf' => hn f' (List.mem_cons_of_mem _ hf'))
          have hnm : f.name ≠ "_" := hn f (List.mem_cons_self ..)
          simp only [Op.eqFields, ne_eq, hnm, not_false_eq_true, if_true, Sem.run_bind, hp1, hq1, he, Result.andThen_ok, Sem.run_ite, hr]
          cases a1 <;> simp
        · cases h

theorem ints_some {k k' : IntKind} {x y : Ask T} (h : ints k k' x = some y) : k = k' ∧ x = y := by
  unfold ints at h
  split at h
  · rename_i hk
    simp only [Option.some.injEq] at h
    exact ⟨eq_of_beq hk, h⟩
  · cases h

theorem eqW_ok (hE : EnvOk P E) {t : Nat} {x y : V T} {p q : Value} {b : Bool} (hx : Rep E g x p) (hy : Rep E g y q) (h : eqW E t x y = some b) :
    (Op.equalIn 10000 t p q).run P w = .ok b w ∧ ¬ (p = .nilIface ∧ q = .nilIface) ∧ (∀ ps qs, p = .agg ps → q = .agg qs → P.eqGuardType P.depth t = false) := by
  unfold eqW at h
  split at h
  · rename_i xs ys
    split at h
    · rename_i hag
      obtain ⟨vs, h1, _, rfl⟩ := hx.agg_inv
      obtain ⟨us, h2, _, rfl⟩ := hy.agg_inv
      refine ⟨(eq_ok hE 100).1 t xs ys b vs us _ _ 10000 h h1 h2 (by simp [CellsOf, hag]) (by simp [CellsOf, hag]) (by omega), by simp, fun _ _ _ _ => ?_⟩
      have hty := hE.ty t
      unfold eqT at h
      cases ht : E.ty t <;> rw [ht] at h hag hty <;> first | (cases hag; done) | skip
      · exact hty.2.2.2.1
      · cases h
    · cases h
  · obtain ⟨h1, h2, h3⟩ := eqLeaf_ok (P := P) (w := w) 9999 (hE.ty t) hx hy h
    exact ⟨h1, h2, fun ps _ hp _ => absurd hp (h3 ps)⟩

/-- '==' and '!=' by the machine's dispatch. -/
def other : Value → Bool
  | .int .. | .float .. | .complex .. | .string .. => false
  | _ => true
theorem binOp_eql {t : Nat} {p q : Value} {b : Bool} (h : (Op.equalIn 10000 t p q).run P w = .ok b w) (hp : other p = true) : (binOp .eql t p q).run P w = .ok (.bool b) w := by
  have : binOp .eql t p q = (do pure (.bool (← Op.equal t p q))) := by cases p <;> first | (cases hp; done) | (cases q <;> rfl)
  rw [this]
  simp [Op.equal, Op.maxDepth, h]
theorem binOp_neq {t : Nat} {p q : Value} {b : Bool} (h : (Op.equalIn 10000 t p q).run P w = .ok b w) (hp : other p = true) : (binOp .neq t p q).run P w = .ok (.bool !b) w := by
  have : binOp .neq t p q = (do pure (.bool (!(← Op.equal t p q)))) := by cases p <;> first | (cases hp; done) | (cases q <;> rfl)
  rw [this]
  simp [Op.equal, Op.maxDepth, h]
/-- What '==' is asked of, told by the table. -/
theorem eqW_forms {t : Nat} {x y : V T} {p q : Value} {b : Bool} (hx : Rep E g x p) (hy : Rep E g y q) (h : eqW E t x y = some b) :
    (∃ k m n, p = .int k m ∧ q = .int k n ∧ b = (m == n)) ∨ (∃ s r, p = .string ⟨⟨s⟩⟩ ∧ q = .string ⟨⟨r⟩⟩ ∧ b = (s == r)) ∨ other p = true := by
  unfold eqW at h
  split at h
  · obtain ⟨vs, _, _, rfl⟩ := hx.agg_inv
    exact .inr (.inr rfl)
  · unfold eqLeaf at h
    split at h <;> (try split at h) <;> (try (split at h)) <;> (try (cases h; done)) <;> first
      | (refine .inr (.inr ?_)
         first
         | (rw [hx.bool_inv]; rfl) | (rw [hx.nil_slice.1]; rfl) | (rw [hx.nsl_inv]; rfl) | (rw [hx.npt_inv]; rfl) | (rw [hx.nmp_inv]; rfl) | (rw [hx.nfn_inv]; rfl) | (rw [hx.nif_inv]; rfl)
         | (obtain ⟨_, _, rfl⟩ := hx.ptr_inv; rfl) | (obtain ⟨_, _, _, _, _, rfl⟩ := hx.adr_inv; rfl) | (obtain ⟨_, _, _, rfl⟩ := hx.map_inv; rfl) | (obtain ⟨_, _, _, _, rfl⟩ := hx.fn_inv; rfl) | (obtain ⟨_, _, rfl⟩ := hx.ifc_inv; rfl))
      | (rename_i hk
         have hk' := eq_of_beq hk
         subst hk'
         simp only [Option.some.injEq] at h
         exact .inl ⟨_, _, _, hx.int_inv, hy.int_inv, h.symm⟩)
      | (simp only [Option.some.injEq] at h
         exact .inr (.inl ⟨_, _, hx.str_inv, hy.str_inv, h.symm⟩))
theorem eqW_run (hE : EnvOk P E) {t : Nat} {x y : V T} {p q : Value} {b : Bool} (hx : Rep E g x p) (hy : Rep E g y q) (h : eqW E t x y = some b) :
    (binOp .eql t p q).run P w = .ok (.bool b) w ∧ (binOp .neq t p q).run P w = .ok (.bool !b) w ∧ ¬ (p = .nilIface ∧ q = .nilIface) ∧ (∀ ps qs, p = .agg ps → q = .agg qs → P.eqGuardType P.depth t = false) := by
  obtain ⟨h1, h2, h3⟩ := eqW_ok (w := w) hE hx hy h
  rcases eqW_forms hx hy h with ⟨k, m, n, rfl, rfl, rfl⟩ | ⟨s, r, rfl, rfl, rfl⟩ | ho
  · exact ⟨by simp [binOp, Op.intCmp], by simp [binOp, Op.intCmp, bne], h2, h3⟩
  · exact ⟨by simp [binOp, Op.stringOp, byteArray_toList], by simp [binOp, Op.stringOp, byteArray_toList], h2, h3⟩
  · exact ⟨binOp_eql h1 ho, binOp_neq h1 ho, h2, h3⟩
end
end Go.Proofs.YtnenfgpjedddoaaGreat.AI

/- Each operation does what the abstract interpreter says: binary operators. -/
set_option linter.unusedVariables false
set_option linter.unusedSectionVars false
set_option linter.unusedSimpArgs false
namespace Go.Proofs.YtnenfgpjedddoaaGreat.AI
open Go

variable {K : Type} [DecidableEq K] {T : K → Type} {E : Env T} {P : Program}
section
variable {g : Gh} {st : List (Ob T)} {w : World} {fr : Fr T} {a : Act} (o : Oper)

theorem intDiv_ok {op : BinOp} (k : IntKind) (x y : Int) (hy : (!(y == 0)) = true) (hop : op = .quo ∨ op = .rem) :
    (Op.intDiv op k x y).run P w = .ok (.int k (if op = .quo then k.wrap (x.tdiv y) else x.tmod y)) w := by
  have : ¬ y = 0 := by simpa using hy
  rcases hop with rfl | rfl <;> simp [Op.intDiv, this]

theorem eqIn_nil (d : Nat) {t : Nat} {e : TypeId} (hu : P.underlying t = some (.slice e)) (ad : Option Addr) (n c : Nat) :
    (Op.equalIn (d + 1) t (.slice ad n c) (.slice none 0 0)).run P w = .ok ad.isNone w ∧ (Op.equalIn (d + 1) t (.slice none 0 0) (.slice ad n c)).run P w = .ok ad.isNone w := by
  cases ad <;> exact ⟨by simp [Op.equalIn, run_underlying hu], by simp [Op.equalIn, run_underlying hu]⟩
theorem unsure_ok (hE : EnvOk P E) {t : Nat} {x y : V T} {p q : Value} {b : Bool} (hx : Rep E g x p) (hy : Rep E g y q) (h : unsure (E.ty t) x y = some b) :
    ∃ r, (binOp .eql t p q).run P w = .ok (.bool r) w ∧ (binOp .neq t p q).run P w = .ok (.bool !r) w ∧ (r = true → b = true) ∧ ¬ (p = .nilIface ∧ q = .nilIface) ∧ (∀ ps, p ≠ .agg ps) := by
  have hty := hE.ty t
  unfold unsure at h
  split at h
  · rename_i e0 e xs hs
    simp only [Option.some.injEq] at h
    subst h
    rw [hs] at hty
    obtain ⟨ad, cap, hf, rfl⟩ := hx.sl_inv
    rw [hy.nsl_inv]
    obtain ⟨he, _⟩ := eqIn_nil (P := P) (w := w) 9999 hty.1 ad xs.length cap
    refine ⟨ad.isNone, binOp_eql he rfl, binOp_neq he rfl, fun hn => ?_, by simp, by simp⟩
    cases ad with
    | none => cases hf; rfl
    | some ad => cases hn
  · rename_i e0 e xs hs
    simp only [Option.some.injEq] at h
    subst h
    rw [hs] at hty
    obtain ⟨ad, cap, hf, rfl⟩ := hy.sl_inv
    rw [hx.nsl_inv]
    obtain ⟨_, he⟩ := eqIn_nil (P := P) (w := w) 9999 hty.1 ad xs.length cap
    refine ⟨ad.isNone, binOp_eql he rfl, binOp_neq he rfl, fun hn => ?_, by simp, by simp⟩
    cases ad with
    | none => cases hf; rfl
    | some ad => cases hn
  · cases h

theorem binOp_ok (hE : EnvOk P E) {op : BinOp} {t u : Nat} {x y : Operand} (hi : Inv E g st w) (hf : FrOk E g fr a.tmps) {k : Ask T} (h : binOpA E fr o op t x y u = some k) (hop : o.op = .binOp op t x y u) :
    SoundAsk P E g st w ((execOp a.eval o).run P w) k := by
  unfold binOpA at h
  split at h
  case h_2 => cases h
  rename_i xv yv hx hy
  have hxv := evalO_ok hf hx
  have hyv := evalO_ok hf hy
  have run : ∀ {v : Value}, isEq op = false → (binOp op t (a.eval x) (a.eval y)).run P w = .ok v w → (execOp a.eval o).run P w = .ok (.value v) w :=
    fun hq hb => binOp_run o hop (fun h => by rw [hq] at h; cases h) hb
  unfold binV at h
  split at h
  · -- ==
    split at h
    · rename_i b hu
      simp only [Option.some.injEq] at h
      subst h
      obtain ⟨r, h1, _, h3, h4, h5⟩ := unsure_ok (w := w) hE hxv hyv hu
      have hr := binOp_run o hop (fun _ => ⟨fun ps _ hp _ => absurd hp (h5 ps), h4⟩) h1
      cases r
      · exact .inl (.here hi hr (.bool _ _))
      · exact .inr ⟨h3 rfl, .here hi hr (.bool _ _)⟩
    · cases he : eqW E t xv yv with
      | none => simp [he] at h
      | some b =>
        simp only [he, Option.map_some, Option.some.injEq] at h
        subst h
        obtain ⟨h1, _, h3, h4⟩ := eqW_run (w := w) hE hxv hyv he
        exact .here hi (binOp_run o hop (fun _ => ⟨h4, h3⟩) h1) (.bool _ _)
  · -- !=
    split at h
    · rename_i b hu
      simp only [Option.some.injEq] at h
      subst h
      obtain ⟨r, _, h2, h3, h4, h5⟩ := unsure_ok (w := w) hE hxv hyv hu
      have hr := binOp_run o hop (fun _ => ⟨fun ps _ hp _ => absurd hp (h5 ps), h4⟩) h2
      cases r
      · exact .inl (.here hi hr (.bool _ _))
      · exact .inr ⟨h3 rfl, .here hi hr (.bool _ _)⟩
    · cases he : eqW E t xv yv with
      | none => simp [he] at h
      | some b =>
        simp only [he, Option.map_some, Option.some.injEq] at h
        subst h
        obtain ⟨_, h2, h3, h4⟩ := eqW_run (w := w) hE hxv hyv he
        exact .here hi (binOp_run o hop (fun _ => ⟨h4, h3⟩) h2) (.bool _ _)
  · rename_i hn1 hn2
    have hq : isEq op = false := by cases op <;> first | rfl | exact absurd rfl hn1 | exact absurd rfl hn2
    split at h
    · rename_i k1 m k2 n
      have ex := hxv.int_inv
      have ey := hyv.int_inv
      split at h <;> first
        | (obtain ⟨hk, h'⟩ := ints_some h
           subst hk; subst h'
           first
           | (refine .here hi (run hq ?_) (.int _ _ _)
              rw [ex, ey]
              simp [binOp, Op.intArith, Op.intBits]
              done)
           | (refine .here hi (run hq ?_) (.bool _ _)
              rw [ex, ey]
              simp [binOp, Op.intCmp]
              done)
           | (intro hb
              refine .here hi (run hq ?_) (.int _ _ _)
              rw [ex, ey]
              have hb' : ¬ n = 0 := by simpa using hb
              simp [binOp, Op.intDiv, hb']
              done))
        | (simp only [Option.some.injEq] at h
           subst h
           intro hb
           refine .here hi (run hq ?_) (.int _ _ _)
           rw [ex, ey]
           have hb' : ¬ n < 0 := by simpa using hb
           simp [binOp, Op.shift, hb']
           done)
        | (cases h; done)
    · rename_i s r
      have ex := hxv.str_inv
      have ey := hyv.str_inv
      split at h <;> first
        | (simp only [Option.some.injEq] at h
           subst h
           first
           | (refine .here hi (run hq ?_) (.bool _ _)
              rw [ex, ey]
              simp [binOp, Op.stringOp, byteArray_toList]
              done)
           | (intro hb
              have hb' : s.length + r.length ≤ 9223372036854775807 := of_decide_eq_true hb
              refine .here hi (run hq ?_) (.str _ _)
              rw [ex, ey]
              have e1 : ((⟨⟨s⟩⟩ : ByteArray) ++ ⟨⟨r⟩⟩) = ⟨⟨s ++ r⟩⟩ := by
                apply ByteArray.ext
                apply Array.ext'
                simp [ByteArray.data_append]
              have e2 : (⟨⟨s⟩⟩ : ByteArray).size = s.length := rfl
              have e3 : (⟨⟨r⟩⟩ : ByteArray).size = r.length := rfl
              simp only [binOp, Op.stringOp, e1, e2, e3]
              rw [if_neg (by rw [show IntKind.i64.max = 9223372036854775807 by decide]; omega)]
              rfl))
        | (cases h; done)
    · cases h
end
end Go.Proofs.YtnenfgpjedddoaaGreat.AI

/- Each operation does what the abstract interpreter says: addresses, loads, parts, lengths. -/
set_option linter.unusedVariables false
set_option linter.unusedSectionVars false
set_option linter.unusedSimpArgs false
namespace Go.Proofs.YtnenfgpjedddoaaGreat.AI
open Go

variable {K : Type} [DecidableEq K] {T : K → Type} {E : Env T} {P : Program}
section
variable {g : Gh} {st : List (Ob T)} {w : World} {fr : Fr T} {a : Act} (o : Oper)

theorem Fz.at (hi : Inv E g st w) {b off : Nat} {vs : List Value} (h : Fz g.G b off vs) : At w b off vs := fun k v hv => hi.froz _ _ _ (h k v hv)
theorem Fz.drop {G : Nat → Nat → Option Value} {b off : Nat} {vs : List Value} (h : Fz G b off vs) (n : Nat) : Fz G b (off + n) (vs.drop n) := fun k v hv => by
  rw [List.getElem?_drop] at hv
  have := h _ v hv
  rwa [← Nat.add_assoc] at this

theorem loadAt_run {t : Nat} {ad : Addr} {v : Value} (h : (loadVar t ad).run P w = .ok v w) : (Instr.loadAt t (.pointer (some ad))).run P w = .ok v w := by
  simp [Instr.loadAt, Instr.sureAddr, h]

theorem cut_known {t : Nat} {cs : List (V T)} {v : V T} (h : cut E t cs = some v) : (E.ty t).known = true := by
  unfold cut at h
  cases ht : E.ty t <;> rw [ht] at h <;> first | rfl | (cases h; done)

/-- An element of an owned array. -/
theorem arr_elem {e : K} {xs : List (T e)} {b n sz : Nat} (hE : EnvOk P E) (hi : Inv E g st w) (h : ObOk E g w (.arr e xs) (.arr b n sz)) {j : Nat} (hj : j < n) :
    ∃ vs, Fcs E g.G (E.enc e (xs.getD j (E.dflt e))) vs ∧ At w b (j * sz) vs := by
  obtain ⟨h1, h2, h3, vs, h4, h5, h6⟩ := h
  subst h1
  have hx : xs[j]? = some (xs.getD j (E.dflt e)) := by simp [List.getD, hj]
  refine ⟨_, h6 j _ hx, ?_⟩
  have := (at_cells_drop h4 (j * sz)).take sz
  exact this
theorem fro_elem {e : K} {xs : List (T e)} {b n sz : Nat} (hi : Inv E g st w) (h : ObOk E g w (.fro e xs) (.arr b n sz)) {j : Nat} (hj : j < n) :
    ∃ vs, Fcs E g.G (E.enc e (xs.getD j (E.dflt e))) vs ∧ At w b (j * sz) vs := by
  obtain ⟨h1, h2, h3, h4⟩ := h
  subst h1
  subst h2
  have hx : xs[j]? = some (xs.getD j (E.dflt e)) := by simp [List.getD, hj]
  cases h4 with
  | sle => exact absurd hj (by simp)
  | sl _ _ _ _ _ css hc hs hz =>
    have hz' := hz j _ hx
    rw [Nat.zero_add] at hz'
    exact ⟨_, hs j _ hx, hz'.at hi⟩

theorem load_ok (hE : EnvOk P E) {t : Nat} {x : Operand} (hi : Inv E g st w) (hf : FrOk E g fr a.tmps) {k : Ask T} (h : loadA E fr o t x = some k) (hop : o.op = .load t x) :
    SoundAsk P E g st w ((execOp a.eval o).run P w) k := by
  have fin : ∀ {ad : Addr} {v : V T} {y : Value}, a.eval x = .pointer (some ad) → (loadVar t ad).run P w = .ok y w → Rep E g v y → Gives E g w ((execOp a.eval o).run P w) st v := fun h1 h2 h3 =>
    .here hi (by simp [execOp, hop, h1, loadAt_run h2]) h3
  have main : ∀ {v : V T}, Rep E g v (a.eval x) → loadV E t v = some k → SoundAsk P E g st w ((execOp a.eval o).run P w) k := by
    intro v hv h
    unfold loadV at h
    split at h
    · rename_i cs
      cases hc : cut E t cs with
      | none => simp [hc] at h
      | some u =>
        simp only [hc, Option.map_some, Option.some.injEq] at h
        subst h
        obtain ⟨b, off, vs, h1, h2, h3⟩ := hv.adr_inv
        obtain ⟨y, h4, h5⟩ := loadVar_ok hE (w := w) hc (Fcs.reps h1) h1.one (h2.at hi)
        exact fin h3 h4 h5
    · rename_i i off
      simp only [Option.some.injEq] at h
      subst h
      intro ob u hob hk
      obtain ⟨b, h1, h2⟩ := hv.ptr_inv
      unfold loadBox at hk
      split at hk
      · rename_i t' cs
        split at hk
        · rename_i u' hc
          simp only [Option.some.injEq, Prod.mk.injEq, true_and] at hk
          subst hk
          obtain ⟨vs, h3, h4, h5, h6⟩ := hi.obs i _ _ hob h1
          obtain ⟨y, h7, h8⟩ := loadVar_ok hE (w := w) hc (h4.drop off) (h5.drop off) (at_cells_drop h3 off)
          exact fin h2 h7 h8
        · cases hk
      · cases hk
    · rename_i i j off
      simp only [Option.some.injEq] at h
      subst h
      intro ob u hob hk
      obtain ⟨b, n, sz, h1, hj, h2⟩ := hv.elt_inv
      have hok := hi.obs i _ _ hob h1
      unfold loadElt at hk
      split at hk
      · rename_i e xs
        split at hk
        · rename_i u' hc
          simp only [Option.some.injEq, Prod.mk.injEq, true_and] at hk
          subst hk
          obtain ⟨vs, h3, h4⟩ := arr_elem hE hi hok hj
          obtain ⟨y, h7, h8⟩ := loadVar_ok hE (w := w) hc (Fcs.reps (h3.drop off)) (h3.drop off).one (h4.drop off)
          exact fin h2 h7 h8
        · cases hk
      · rename_i e xs
        split at hk
        · rename_i u' hc
          simp only [Option.some.injEq, Prod.mk.injEq, true_and] at hk
          subst hk
          obtain ⟨vs, h3, h4⟩ := fro_elem hi hok hj
          obtain ⟨y, h7, h8⟩ := loadVar_ok hE (w := w) hc (Fcs.reps (h3.drop off)) (h3.drop off).one (h4.drop off)
          exact fin h2 h7 h8
        · cases hk
      · cases hk
    · cases h
  unfold loadA at h
  split at h
  · rename_i v hg
    refine main ?_ h
    unfold globA at hg
    split at hg
    · rename_i gl
      cases hgl : E.glob gl with
      | none => simp [hgl] at hg
      | some cs =>
        simp only [hgl, Option.map_some, Option.some.injEq] at hg
        subst hg
        obtain ⟨vs, h1, h2⟩ := hi.glob gl cs hgl
        exact .adr h1 h2
    · cases hg
  · cases hx : evalO fr x with
    | none => simp [hx] at h
    | some v => exact main (evalO_ok hf hx) (by simpa [hx] using h)

theorem fieldAddr_ok (hE : EnvOk P E) {t : Nat} {x : Operand} {f : Nat} (hi : Inv E g st w) (hf : FrOk E g fr a.tmps) {k : Ask T} (h : fieldAddrA E fr o t x f = some k) (hop : o.op = .fieldAddr t x f) :
    SoundAsk P E g st w ((execOp a.eval o).run P w) k := by
  unfold fieldAddrA at h
  split at h
  case h_2 => cases h
  rename_i fs hty
  have ht := hE.ty t
  rw [hty] at ht
  obtain ⟨⟨fields, hu, hfs, _⟩, _, _, _, hsz⟩ := ht
  have fin : ∀ {u off : Nat} {b off' : Nat} {v : V T}, fieldAt fs f = some (u, off) → a.eval x = .pointer (some ⟨b, off', none⟩) → Rep E g v (.pointer (some ⟨b, off' + off, none⟩)) →
      Gives E g w ((execOp a.eval o).run P w) st v := fun {u off b off' v} h1 h2 h3 => by
    unfold fieldAt at h1
    obtain ⟨hs, hpos⟩ := hsz (u, off) (List.mem_of_getElem? h1)
    obtain ⟨i, hinf, his⟩ := hs
    rw [hfs, List.getElem?_map] at h1
    cases hfl : fields.toList[f]? with
    | none => simp [hfl] at h1
    | some fl =>
      simp only [hfl, Option.map_some, Option.some.injEq, Prod.mk.injEq] at h1
      obtain ⟨rfl, rfl⟩ := h1
      have hfl' : fields[f]? = some fl := by simpa using hfl
      refine .here hi ?_ h3
      have hne : ¬ i.size = 0 := by rw [his]; exact Nat.ne_of_gt hpos
      have : (Instr.fieldAt t (a.eval x) f).run P w = .ok (.pointer (some ⟨b, off' + fl.offset, none⟩)) w := by
        rw [h2]
        simp [Instr.fieldAt, run_underlying hu, hfl', Instr.sureAddr, fieldPlace, run_sizeOf' hinf, hne, Addr.add_mk]
      simp [execOp, hop, this]
  split at h
  · rename_i u off i off' h1 hx
    simp only [Option.some.injEq] at h
    subst h
    obtain ⟨b, h2, h3⟩ := (evalO_ok hf hx).ptr_inv
    exact fin h1 h3 (.ptr h2)
  · rename_i u off cs h1 hx
    simp only [Option.some.injEq] at h
    subst h
    obtain ⟨b, off', vs, h2, h3, h4⟩ := (evalO_ok hf hx).adr_inv
    exact fin h1 h4 (.adr (h2.drop off) (h3.drop off))
  · rename_i u off i j off' h1 hx
    simp only [Option.some.injEq] at h
    subst h
    obtain ⟨b, n, sz, h2, hj, h3⟩ := (evalO_ok hf hx).elt_inv
    refine fin h1 h3 ?_
    rw [Nat.add_assoc]
    exact .elt h2 hj
  · cases h

theorem cut_part (hE : EnvOk P E) {t off : Nat} {cs : List (V T)} {vs : List Value} {v : V T} (hc : cut E t (cs.drop off) = some v) (hr : Reps E g cs vs) (h1 : One vs) :
    ∃ x, (part t ⟨vs⟩ off).run P w = .ok x w ∧ Rep E g v x := by
  have hk := cut_known hc
  have hl := hr.length
  have hr' := hr.drop off
  unfold cut at hc
  have agg : (E.ty t).agg = true → cutN (E.size t) (cs.drop off) = some v → ∃ x, (part t ⟨vs⟩ off).run P w = .ok x w ∧ Rep E g v x := fun hag hc => by
    unfold cutN at hc
    split at hc
    · rename_i hb
      simp only [Option.some.injEq] at hc
      subst hc
      have hb' := Nat.le_of_ble_eq_true (Bool.and_eq_true_iff.1 hb).1
      have hb2 : 0 < E.size t := Nat.le_of_ble_eq_true (Bool.and_eq_true_iff.1 hb).2
      rw [List.length_drop] at hb'
      by_cases hz : off ≤ vs.length
      · obtain ⟨p, h2, h3⟩ := part_ok (P := P) (w := w) hE (vs := vs) (o := off) hk (by omega)
        simp only [CellsOf, hag] at h3
        subst h3
        exact ⟨_, h2, .agg (hr'.take _) ((h1.drop off).take _)⟩
      · omega
    · cases hc
  have one : (E.ty t).agg = false → E.cts t = [t] → (cs.drop off).head? = some v → ∃ x, (part t ⟨vs⟩ off).run P w = .ok x w ∧ Rep E g v x := fun hag hct hc => by
    rw [List.head?_drop] at hc
    obtain ⟨y, h2, h3⟩ := hr.get hc
    have hlt : off < vs.length := (List.getElem?_eq_some_iff.1 h2).1
    have hs : E.size t = 1 := by simp [Env.size, hct]
    obtain ⟨p, h4, h5⟩ := part_ok (P := P) (w := w) hE (vs := vs) (o := off) hk (by omega)
    simp only [CellsOf, hag, hs] at h5
    rw [List.take_one, List.head?_drop, h2] at h5
    simp only [Option.toList_some, List.cons.injEq, and_true] at h5
    subst h5
    exact ⟨_, h4, h3⟩
  have hty := hE.ty t
  cases ht : E.ty t <;> simp only [ht] at hc hty hk
  case int => exact one (by rw [ht]; rfl) hty.2.2 hc
  case bool => exact one (by rw [ht]; rfl) hty.2.2 hc
  case str => exact one (by rw [ht]; rfl) hty.2.2 hc
  case slice => exact one (by rw [ht]; rfl) hty.2.2 hc
  case ptr => exact one (by rw [ht]; rfl) hty.2.2 hc
  case map => exact one (by rw [ht]; rfl) hty.2.2 hc
  case func => exact one (by rw [ht]; rfl) hty.2.2 hc
  case iface => exact one (by rw [ht]; rfl) hty.2.2 hc
  case struct => exact agg (by rw [ht]; rfl) hc
  case array => exact agg (by rw [ht]; rfl) hc
  case other => cases hk

theorem field_ok (hE : EnvOk P E) {t : Nat} {x : Operand} {f : Nat} (hi : Inv E g st w) (hf : FrOk E g fr a.tmps) {k : Ask T} (h : fieldA E fr o t x f = some k) (hop : o.op = .field t x f) :
    SoundAsk P E g st w ((execOp a.eval o).run P w) k := by
  unfold fieldA at h
  split at h
  case h_2 => cases h
  rename_i fs hty
  have ht := hE.ty t
  rw [hty] at ht
  obtain ⟨⟨fields, hu, hfs, _⟩, _⟩ := ht
  split at h
  · rename_i u off cs h1 hx
    cases hc : cut E u (cs.drop off) with
    | none => simp [hc] at h
    | some v =>
      simp only [hc, Option.map_some, Option.some.injEq] at h
      subst h
      obtain ⟨vs, h2, h3, h4⟩ := (evalO_ok hf hx).agg_inv
      unfold fieldAt at h1
      rw [hfs, List.getElem?_map] at h1
      cases hfl : fields.toList[f]? with
      | none => simp [hfl] at h1
      | some fl =>
        simp only [hfl, Option.map_some, Option.some.injEq, Prod.mk.injEq] at h1
        obtain ⟨rfl, rfl⟩ := h1
        have hfl' : fields[f]? = some fl := by simpa using hfl
        obtain ⟨y, h5, h6⟩ := cut_part (P := P) (w := w) hE hc h2 h3
        refine .here hi ?_ h6
        have : (Instr.field t (a.eval x) f).run P w = .ok y w := by
          rw [h4]
          simp [Instr.field, run_underlying hu, hfl', asAgg, h5]
        simp [execOp, hop, this]
  · cases h

theorem within_spec {i n : Int} (h : within i n = true) : 0 ≤ i ∧ i < n := by
  simpa [within] using h

theorem indexAddr_ok (hE : EnvOk P E) {t : Nat} {x ix : Operand} (hi : Inv E g st w) (hf : FrOk E g fr a.tmps) {k : Ask T} (h : indexAddrA E fr o t x ix = some k) (hop : o.op = .indexAddr t x ix) :
    SoundAsk P E g st w ((execOp a.eval o).run P w) k := by
  have ht := hE.ty t
  have fin : ∀ {v : V T} {y : Value}, (Instr.indexAt t (a.eval x) (a.eval ix)).run P w = .ok y w → Rep E g v y → Gives E g w ((execOp a.eval o).run P w) st v := fun h1 h2 =>
    .here hi (by simp [execOp, hop, h1]) h2
  have slc : ∀ {e0 : K} {b off n cap : Nat} {ki : IntKind} {i : Int}, P.underlying t = some (.slice (E.num e0)) → a.eval x = .slice (some ⟨b, off, none⟩) n cap → a.eval ix = .int ki i → 0 ≤ i → i < (n : Int) →
      (Instr.indexAt t (a.eval x) (a.eval ix)).run P w = .ok (.pointer (some ⟨b, off + i.toNat * E.size (E.num e0), none⟩)) w := fun {e0 b off n cap ki i} hu h1 h2 h3 h4 => by
    obtain ⟨inf, z, hinf, _, hs, _⟩ := hE.elem e0
    rw [h1, h2]
    simp [Instr.indexAt, asIntOf, run_underlying hu, h3, h4, run_sizeOf' hinf, hs, Addr.add_mk]
  unfold indexAddrA at h
  split at h
  · rename_i e0 e xs ow ki i hty hx hix
    rw [hty] at ht
    split at h
    · rename_i he
      have he' : e = e0 := of_decide_eq_true he
      subst he'
      simp only [Option.some.injEq] at h
      subst h
      intro hb
      obtain ⟨h1, h2⟩ := within_spec hb
      obtain ⟨ad, cap, h3, h4⟩ := (evalO_ok hf hx).sl_inv
      rw [h4] at h3
      have h5 := (evalO_ok hf hix).int_inv
      cases h3 with
      | sl0 => simp at h2; omega
      | sle => simp at h2; omega
      | sl _ _ b off _ css hc hs hz =>
        have hlt : i.toNat < xs.length := by omega
        have hx' : xs[i.toNat]? = some (xs.getD i.toNat (E.dflt e)) := by simp [List.getD, hlt]
        exact fin (slc ht.1 h4 h5 h1 h2) (.adr (hs _ _ hx') (hz _ _ hx'))
    · cases h
  · rename_i e0 ai ki i hty hx hix
    rw [hty] at ht
    simp only [Option.some.injEq] at h
    subst h
    intro ob v hob hk
    obtain ⟨b, n, sz, h1, h2⟩ := (evalO_ok hf hx).asl_inv
    have hok := hi.obs ai _ _ hob h1
    have h5 := (evalO_ok hf hix).int_inv
    have done : ∀ {e : K} {xs : List (T e)}, e = e0 → n = xs.length → sz = E.size (E.num e) → within i (xs.length : Int) = true → v = .elt ai i.toNat 0 → Gives E g w ((execOp a.eval o).run P w) st v := fun {e xs} he hn hsz hw hv => by
      subst he; subst hn; subst hsz; subst hv
      obtain ⟨h6, h7⟩ := within_spec hw
      refine fin (slc ht.1 h2 h5 h6 h7) ?_
      rw [Nat.zero_add]
      exact .elt h1 (by omega)
    unfold eltK at hk
    split at hk
    · rename_i e xs
      split at hk
      · rename_i he
        simp only [Option.some.injEq, Prod.mk.injEq] at hk
        obtain ⟨hw, hv⟩ := hk
        exact done (of_decide_eq_true he) hok.1 hok.2.1 hw hv.symm
      · cases hk
    · rename_i e xs
      split at hk
      · rename_i he
        simp only [Option.some.injEq, Prod.mk.injEq] at hk
        obtain ⟨hw, hv⟩ := hk
        exact done (of_decide_eq_true he) hok.1 hok.2.1 hw hv.symm
      · cases hk
    · cases hk
  · rename_i n e b off ki i hty hx hix
    rw [hty] at ht
    obtain ⟨hu, _, ⟨inf, hinf, hs⟩⟩ := ht
    simp only [Option.some.injEq] at h
    subst h
    intro hb
    obtain ⟨h1, h2⟩ := within_spec hb
    obtain ⟨bl, h3, h4⟩ := (evalO_ok hf hx).ptr_inv
    have h5 := (evalO_ok hf hix).int_inv
    refine fin ?_ (.ptr h3)
    rw [h4, h5]
    simp [Instr.indexAt, asIntOf, run_underlying hu, Instr.sureAddr, h1, h2, run_sizeOf' hinf, hs, Addr.add_mk]
  · rename_i n e cs ki i hty hx hix
    rw [hty] at ht
    obtain ⟨hu, _, ⟨inf, hinf, hs⟩⟩ := ht
    simp only [Option.some.injEq] at h
    subst h
    intro hb
    obtain ⟨h1, h2⟩ := within_spec hb
    obtain ⟨bl, off, vs, h3, h6, h4⟩ := (evalO_ok hf hx).adr_inv
    have h5 := (evalO_ok hf hix).int_inv
    refine fin ?_ (.adr (h3.drop _) (h6.drop _))
    rw [h4, h5]
    simp [Instr.indexAt, asIntOf, run_underlying hu, Instr.sureAddr, h1, h2, run_sizeOf' hinf, hs, Addr.add_mk]
  · cases h
end
end Go.Proofs.YtnenfgpjedddoaaGreat.AI

/- Each operation does what the abstract interpreter says: indexes, slices, lengths, the greatest and the least. -/
set_option linter.unusedVariables false
set_option linter.unusedSectionVars false
set_option linter.unusedSimpArgs false
namespace Go.Proofs.YtnenfgpjedddoaaGreat.AI
open Go

variable {K : Type} [DecidableEq K] {T : K → Type} {E : Env T} {P : Program}
section
variable {g : Gh} {st : List (Ob T)} {w : World} {fr : Fr T} {a : Act} (o : Oper)

theorem index_ok (hE : EnvOk P E) {t : Nat} {x ix : Operand} (hi : Inv E g st w) (hf : FrOk E g fr a.tmps) {k : Ask T} (h : indexA E fr o t x ix = some k) (hop : o.op = .index t x ix) :
    SoundAsk P E g st w ((execOp a.eval o).run P w) k := by
  have ht := hE.ty t
  unfold indexA at h
  split at h
  · rename_i s ki i hty hx hix
    rw [hty] at ht
    simp only [Option.some.injEq] at h
    subst h
    intro hb
    obtain ⟨h1, h2⟩ := within_spec hb
    have h3 := (evalO_ok hf hx).str_inv
    have h4 := (evalO_ok hf hix).int_inv
    have hlt : i.toNat < s.length := by omega
    have : (Instr.index t (a.eval x) (a.eval ix)).run P w = .ok (.int .u8 (s.getD i.toNat 0).toNat) w := by
      rw [h3, h4]
      have e1 : ((⟨⟨s⟩⟩ : ByteArray)[i.toNat]? : Option UInt8) = some (s.getD i.toNat 0) := by
        have hsz : i.toNat < (⟨⟨s⟩⟩ : ByteArray).size := hlt
        rw [getElem?_pos (⟨⟨s⟩⟩ : ByteArray) i.toNat hsz]
        congr 1
        have : s.getD i.toNat 0 = s[i.toNat] := by simp [List.getD, hlt]
        rw [this]
        rfl
      simp [Instr.index, asIntOf, run_underlying ht.1, h1, e1]
    exact .here hi (by simp [execOp, hop, this]) (.int _ _ _)
  · rename_i n e cs ki i hty hx hix
    rw [hty] at ht
    obtain ⟨hu, _, ⟨inf, hinf, hs⟩⟩ := ht
    split at h
    · rename_i v hc
      simp only [Option.some.injEq] at h
      subst h
      intro hb
      obtain ⟨h1, h2⟩ := within_spec hb
      obtain ⟨vs, h3, h4, h5⟩ := (evalO_ok hf hx).agg_inv
      have h6 := (evalO_ok hf hix).int_inv
      obtain ⟨y, h7, h8⟩ := cut_part (P := P) (w := w) hE hc h3 h4
      have : (Instr.index t (a.eval x) (a.eval ix)).run P w = .ok y w := by
        rw [h5, h6]
        simp [Instr.index, asIntOf, run_underlying hu, h1, h2, run_sizeOf' hinf, hs, h7]
      exact .here hi (by simp [execOp, hop, this]) h8
    · cases h
  · cases h

theorem Fc.slice {G : Nat → Nat → Option Value} {e : K} {xs : List (T e)} {ad : Option Addr} {n cap : Nat} (h : Fc E G (.sl e xs .no) (.slice ad n cap)) {l hh m : Nat} (h1 : l ≤ hh) (h2 : hh ≤ xs.length) (h3 : hh ≤ m) (h4 : m ≤ cap) :
    Fc E G (.sl e ((xs.take hh).drop l) .no) (.slice (if m = l then ad else ad.map (·.add (l * E.size (E.num e)))) (hh - l) (m - l)) := by
  have hlen : ((xs.take hh).drop l).length = hh - l := by simp; omega
  cases h with
  | sl0 =>
    simp only [List.length_nil, Nat.le_zero_eq] at h2
    subst h2
    have : l = 0 := by omega
    subst this
    have : m = 0 := by omega
    subst this
    exact .sl0 e
  | sle _ a =>
    simp only [List.length_nil, Nat.le_zero_eq] at h2
    subst h2
    have : l = 0 := by omega
    subst this
    have e1 : (if m = 0 then some a else (some a).map (·.add (0 * E.size (E.num e)))) = some a := by
      split
      · rfl
      · simp [Addr.add]
    rw [e1]
    exact .sle e a _
  | sl _ _ b off _ css hc hs hz =>
    rw [← hlen]
    split
    · rename_i hml
      have hnil : (xs.take hh).drop l = [] := List.eq_nil_of_length_eq_zero (by omega)
      rw [hnil]
      exact .sl e [] b off _ css (by simp) (fun i x hx => by simp at hx) (fun i x hx => by simp at hx)
    · simp only [Option.map_some, Addr.add_mk]
      refine .sl e _ b _ _ (fun i => css (l + i)) (by omega) (fun i x hx => ?_) (fun i x hx => ?_)
      · have hx' : xs[l + i]? = some x := by
          rw [List.getElem?_drop, List.getElem?_take] at hx
          split at hx
          · exact hx
          · cases hx
        exact hs _ _ hx'
      · have hx' : xs[l + i]? = some x := by
          rw [List.getElem?_drop, List.getElem?_take] at hx
          split at hx
          · exact hx
          · cases hx
        have := hz _ _ hx'
        rwa [Nat.add_mul, ← Nat.add_assoc] at this

theorem bound_ok {d : Int} {x : Option Operand} {n : Int} (hf : FrOk E g fr a.tmps) (h : bound fr d x = some n) :
    (x = none ∧ n = d) ∨ ∃ y k, x = some y ∧ a.eval y = .int k n := by
  unfold bound at h
  split at h
  · simp only [Option.some.injEq] at h
    exact .inl ⟨rfl, h.symm⟩
  · rename_i y
    cases hy : evalO fr y with
    | none => simp [hy] at h
    | some v =>
      simp only [hy, Option.bind_some] at h
      unfold intOf at h
      split at h
      · simp only [Option.some.injEq] at h
        subst h
        exact .inr ⟨y, _, rfl, (evalO_ok hf hy).int_inv⟩
      · cases h
theorem sliceBound_ok {k : IntKind} {n : Int} {y : Nat} {c : BoundsCode} (h1 : 0 ≤ n) (h2 : n ≤ y) : (Instr.sliceBound (.int k n) y c).run P w = .ok n.toNat w := by
  simp [Instr.sliceBound, asIntOf, h1, h2]
/-- The bounds of a slice, without a third one. -/
theorem sliceBounds_ok {isS : Bool} {len cap : Nat} {lo hi : Option Operand} {l h : Int} (hf : FrOk E g fr a.tmps) (hl : bound fr 0 lo = some l) (hh : bound fr (len : Int) hi = some h) (h1 : 0 ≤ l) (h2 : l ≤ h) (h3 : h ≤ cap) :
    (Instr.sliceBounds isS len cap (lo.map a.eval) (hi.map a.eval) none).run P w = .ok (l.toNat, h.toNat, cap) w := by
  have hh0 : 0 ≤ h := by omega
  have e2 : (h.toNat : Int) = h := Int.toNat_of_nonneg hh0
  rcases bound_ok hf hl with ⟨rfl, rfl⟩ | ⟨y, k, rfl, hy⟩ <;> rcases bound_ok hf hh with ⟨rfl, rfl⟩ | ⟨z, k', rfl, hz⟩
  · simp [Instr.sliceBounds]
  · simp [Instr.sliceBounds, hz, sliceBound_ok hh0 h3]
  · simp [Instr.sliceBounds, hy, sliceBound_ok (P := P) (w := w) (y := len) (c := .sliceB) h1 h2]
  · simp [Instr.sliceBounds, hy, hz, sliceBound_ok hh0 h3, sliceBound_ok (P := P) (w := w) (y := h.toNat) (c := .sliceB) h1 (by omega)]
theorem sliceBounds3_ok {len cap : Nat} {lo hi : Option Operand} {mx : Operand} {l h m : Int} (hf : FrOk E g fr a.tmps) (hl : bound fr 0 lo = some l) (hh : bound fr (len : Int) hi = some h) (hm : bound fr 0 (some mx) = some m)
    (h1 : 0 ≤ l) (h2 : l ≤ h) (h3 : h ≤ m) (h4 : m ≤ cap) (hs : hi.isSome = true) :
    (Instr.sliceBounds true len cap (lo.map a.eval) (hi.map a.eval) (some (a.eval mx))).run P w = .ok (l.toNat, h.toNat, m.toNat) w := by
  have hh0 : 0 ≤ h := by omega
  have hm0 : 0 ≤ m := by omega
  have e2 : (h.toNat : Int) = h := Int.toNat_of_nonneg hh0
  have e3 : (m.toNat : Int) = m := Int.toNat_of_nonneg hm0
  rcases bound_ok hf hm with ⟨hc, _⟩ | ⟨q, k'', hq, hqv⟩
  · cases hc
  cases hq
  rcases bound_ok hf hh with ⟨rfl, rfl⟩ | ⟨z, k', rfl, hz⟩
  · cases hs
  rcases bound_ok hf hl with ⟨rfl, rfl⟩ | ⟨y, k, rfl, hy⟩
  · simp [Instr.sliceBounds, hz, hqv, sliceBound_ok (P := P) (w := w) (y := cap) (c := .slice3Acap) hm0 h4, sliceBound_ok (P := P) (w := w) (y := m.toNat) (c := .slice3B) hh0 (by omega)]
  · simp [Instr.sliceBounds, hy, hz, hqv, sliceBound_ok (P := P) (w := w) (y := cap) (c := .slice3Acap) hm0 h4, sliceBound_ok (P := P) (w := w) (y := m.toNat) (c := .slice3B) hh0 (by omega),
      sliceBound_ok (P := P) (w := w) (y := h.toNat) (c := .slice3C) h1 (by omega)]

theorem byteArray_extract (s : List UInt8) (l h : Nat) : (⟨⟨s⟩⟩ : ByteArray).extract l h = ⟨⟨(s.take h).drop l⟩⟩ := by
  apply ByteArray.ext
  rw [ByteArray.data_extract]
  apply Array.ext'
  simp [List.drop_take]

theorem Fc.len {G : Nat → Nat → Option Value} {e : K} {xs : List (T e)} {ad : Option Addr} {n cap : Nat} (h : Fc E G (.sl e xs .no) (.slice ad n cap)) : n = xs.length ∧ n ≤ cap := by
  cases h with
  | sl0 => exact ⟨rfl, Nat.le_refl _⟩
  | sle => exact ⟨rfl, Nat.zero_le _⟩
  | sl _ _ _ _ _ _ hc => exact ⟨rfl, hc⟩

theorem slice_ok (hE : EnvOk P E) {t : Nat} {x : Operand} {lo hi mx : Option Operand} (hin : Inv E g st w) (hf : FrOk E g fr a.tmps) {k : Ask T} (h : sliceA E fr o t x lo hi mx = some k) (hop : o.op = .slice t x lo hi mx) :
    SoundAsk P E g st w ((execOp a.eval o).run P w) k := by
  have ht := hE.ty t
  have fin : ∀ {v : V T} {y : Value}, (Instr.sliceAt t (a.eval x) (lo.map a.eval) (hi.map a.eval) (mx.map a.eval)).run P w = .ok y w → Rep E g v y → Gives E g w ((execOp a.eval o).run P w) st v := fun h1 h2 =>
    .here hin (by simp [execOp, hop, h1]) h2
  unfold sliceA at h
  split at h
  · rename_i s hty hx
    rw [hty] at ht
    split at h
    · rename_i l hh hl hhh
      simp only [Option.some.injEq] at h
      subst h
      intro hb
      simp only [Bool.and_eq_true, decide_eq_true_eq] at hb
      obtain ⟨⟨h1, h2⟩, h3⟩ := hb
      have h4 := (evalO_ok hf hx).str_inv
      refine fin ?_ (.str _ _)
      have hbd := sliceBounds_ok (P := P) (w := w) (isS := false) (len := s.length) (cap := s.length) hf hl hhh h1 h2 h3
      have hsz : (⟨⟨s⟩⟩ : ByteArray).size = s.length := rfl
      rw [h4]
      simp [Instr.sliceAt, run_underlying ht.1, Instr.slice, hsz, hbd, byteArray_extract]
    · cases h
  · rename_i e0 e xs ow hty hx
    rw [hty] at ht
    split at h
    · rename_i l hh hl hhh
      split at h
      · cases h
      rename_i he
      have he' : e = e0 := of_decide_eq_true he
      subst he'
      simp only [Option.some.injEq] at h
      subst h
      intro hb
      simp only [Bool.and_eq_true, decide_eq_true_eq] at hb
      obtain ⟨⟨h1, h2⟩, h3⟩ := hb
      obtain ⟨ad, cap, h4, h5⟩ := (evalO_ok hf hx).sl_inv
      rw [h5] at h4
      obtain ⟨_, hcap⟩ := h4.len
      obtain ⟨inf, z, hinf, _, hs, _⟩ := hE.elem e
      have hbd := sliceBounds_ok (P := P) (w := w) (isS := true) (len := xs.length) (cap := cap) hf hl hhh h1 h2 (by omega)
      refine fin ?_ (.fc (h4.slice (l := l.toNat) (hh := hh.toNat) (m := cap) (by omega) (by omega) (by omega) (Nat.le_refl _)))
      rw [h5]
      simp [Instr.sliceAt, run_underlying ht.1, Instr.slice, hbd, run_sizeOf' hinf, hs]
    · cases h
  · rename_i e0 e xs ow mx' hty hx
    rw [hty] at ht
    split at h
    · rename_i l hh m hl hhh hm
      split at h
      · cases h
      rename_i he
      simp only [Bool.and_eq_true, decide_eq_true_eq] at he
      obtain ⟨he', hsome⟩ := he
      subst he'
      simp only [Option.some.injEq] at h
      subst h
      intro hb
      simp only [Bool.and_eq_true, decide_eq_true_eq] at hb
      obtain ⟨⟨⟨h1, h2⟩, h3⟩, h3'⟩ := hb
      subst h3
      obtain ⟨ad, cap, h4, h5⟩ := (evalO_ok hf hx).sl_inv
      rw [h5] at h4
      obtain ⟨_, hcap⟩ := h4.len
      obtain ⟨inf, z, hinf, _, hs, _⟩ := hE.elem e
      have hbd := sliceBounds3_ok (P := P) (w := w) (len := xs.length) (cap := cap) hf hl hhh hm h1 h2 (Int.le_refl _) (by omega) hsome
      refine fin ?_ (.slfull (h4.slice (l := l.toNat) (hh := hh.toNat) (m := hh.toNat) (by omega) (by omega) (Nat.le_refl _) (by omega)))
      rw [h5]
      simp [Instr.sliceAt, run_underlying ht.1, Instr.slice, hbd, run_sizeOf' hinf, hs]
    · cases h
  · cases h
end
end Go.Proofs.YtnenfgpjedddoaaGreat.AI

/- Each operation does what the abstract interpreter says: calls of functions, lengths, the greatest and the least; stores, new variables. -/
set_option linter.unusedVariables false
set_option linter.unusedSectionVars false
set_option linter.unusedSimpArgs false
namespace Go.Proofs.YtnenfgpjedddoaaGreat.AI
open Go

variable {K : Type} [DecidableEq K] {T : K → Type} {E : Env T} {P : Program}
section
variable {g : Gh} {st : List (Ob T)} {w : World} {fr : Fr T} {a : Act} (o : Oper)

theorem argsV_ok (hf : FrOk E g fr a.tmps) : ∀ (l : List Operand) (ts : List Nat) (vs : List (V T)), argsV E fr l ts = some vs → Reps E g vs (l.map a.eval) := by
  intro l
  induction l with
  | nil => intro ts vs h; simp only [argsV, Option.some.injEq] at h; subst h; exact .nil
  | cons x l ih =>
    intro ts vs h
    cases ts with
    | nil =>
      simp only [argsV] at h
      split at h
      · rename_i v vs' h1 h2
        simp only [Option.some.injEq] at h
        subst h
        exact .cons (evalO_ok hf h1) (ih _ _ h2)
      · cases h
    | cons t ts =>
      simp only [argsV] at h
      split at h
      · rename_i v vs' h1 h2
        simp only [Option.some.injEq] at h
        subst h
        exact .cons ((evalO_ok hf h1).coerce t) (ih _ _ h2)
      · cases h

theorem call_run {c : Call} {f : Nat} {as cs : List Value} (hop : o.op = .call c) {x : Operand} (hc : c.callee = .value x) (hx : a.eval x = .func (.func f) ⟨as⟩ ⟨cs⟩)
    {fn : Func} (hfn : P.funcs[f]? = some fn) (hb : fn.body.isSome = true) (hn : fn.name ≠ "runtime.NumGoroutine") :
    (execOp a.eval o).run P w = .ok (.enter f ⟨as ++ c.args.toList.map a.eval ++ cs⟩) w := by
  have hne : (fn.name == "runtime.NumGoroutine") = false := by simpa using hn
  have hbn : fn.body.isNone = false := by cases hbb : fn.body <;> simp_all
  have hcf : ∀ args : Array Value, (callFunc f args).run P w = .ok (.enter f args) w := fun args => by
    simp [callFunc, hfn]
    rw [if_neg hn, if_neg (by intro e; rw [e] at hb; cases hb)]
  have : (⟨as⟩ : Array Value) ++ c.args.map a.eval ++ ⟨cs⟩ = ⟨as ++ c.args.toList.map a.eval ++ cs⟩ := by
    apply Array.ext'
    simp
  simp [execOp, hop, resolve, hc, hx, Deferred.ofValue, invoke, hcf]

theorem len_ok {t ty : Nat} {x : V T} {p : Value} (ht : TyOk P E t (E.ty t)) (hi : Inv E g st w) (hx : Rep E g x p) {k : Ask T} (h : lenV (E.ty t) x = some k)
    {r : Result Next} (hr : ∀ v w', (Builtin.len_ #[t] ty #[p]).run P w = .ok v w' → r = .ok (.value v) w') : SoundAsk P E g st w r k := by
  have fin : ∀ {n : Int}, (Builtin.len_ #[t] ty #[p]).run P w = .ok (.int .i64 n) w → Gives E g w r st (.int .i64 n) := fun h => .here hi (hr _ _ h) (.int _ _ _)
  unfold lenV at h
  split at h
  · rename_i s hty
    rw [hty] at ht
    simp only [Option.some.injEq] at h
    subst h
    refine fin ?_
    rw [hx.str_inv]
    have hsz : (⟨⟨s⟩⟩ : ByteArray).size = s.length := rfl
    simp [Builtin.len_, run_underlying ht.1, goInt, hsz]
  · rename_i e0 e xs ow hty
    rw [hty] at ht
    simp only [Option.some.injEq] at h
    subst h
    refine fin ?_
    obtain ⟨ad, cap, _, h2⟩ := hx.sl_inv
    rw [h2]
    simp [Builtin.len_, run_underlying ht.1, goInt]
  · rename_i e0 i hty
    rw [hty] at ht
    simp only [Option.some.injEq] at h
    subst h
    intro ob v hob hk
    obtain ⟨b, n, sz, h1, h2⟩ := hx.asl_inv
    have hok := hi.obs i _ _ hob h1
    have main : ∀ (xn : Nat), n = xn → v = .int .i64 xn → Gives E g w r st v := fun xn hn hv => by
      subst hn; subst hv
      refine fin ?_
      rw [h2]
      simp [Builtin.len_, run_underlying ht.1, goInt]
    unfold lenArr at hk
    split at hk
    · simp only [Option.some.injEq, Prod.mk.injEq, true_and] at hk
      exact main _ hok.1 hk.symm
    · simp only [Option.some.injEq, Prod.mk.injEq, true_and] at hk
      exact main _ hok.1 hk.symm
    · cases hk
  · rename_i k0 e0 i hty
    rw [hty] at ht
    simp only [Option.some.injEq] at h
    subst h
    intro ob v hob hk
    obtain ⟨m, bs, h1, h2⟩ := hx.map_inv
    have hok := hi.obs i _ _ hob h1
    unfold lenMap at hk
    split at hk
    · rename_i kt et ents
      simp only [Option.some.injEq, Prod.mk.injEq, true_and] at hk
      subst hk
      obtain ⟨es, clock, h3, h4, _⟩ := hok
      have hlen : ∀ {ps : List (T kt × T et)} {es : List MapEntry} {bs : List (Value × Nat)}, Ents E g kt et ps es bs → ps.length = es.length := fun h => by
        induction h with
        | nil => rfl
        | cons _ _ _ _ _ ih => simp [ih]
      refine fin ?_
      rw [h2, hlen h4]
      have hg : (getObj m).run P w = .ok (.map es clock) w := by simp [getObj, Sem.run, h3]
      simp [Builtin.len_, run_underlying ht.1, hg, goInt]
    · cases hk
  · rename_i k0 e0 hty
    rw [hty] at ht
    simp only [Option.some.injEq] at h
    subst h
    refine fin ?_
    rw [hx.nmp_inv]
    simp [Builtin.len_, run_underlying ht.1, goInt]
  · cases h

theorem fold_max {f : V T → V T → Option (V T)} {m : Value → Value → Sem Value} (hm : ∀ {x y z : V T} {p q : Value}, Rep E g x p → Rep E g y q → f x y = some z → ∃ r, (m p q).run P w = .ok r w ∧ Rep E g z r) :
    ∀ (ys : List (V T)) (qs : List Value) (x z : V T) (p : Value), Rep E g x p → Reps E g ys qs → foldV f x ys = some z → ∃ r, (qs.foldlM m p).run P w = .ok r w ∧ Rep E g z r := by
  intro ys
  induction ys with
  | nil =>
    intro qs x z p hx hy h
    cases hy
    simp only [foldV, Option.some.injEq] at h
    subst h
    exact ⟨p, rfl, hx⟩
  | cons y ys ih =>
    intro qs x z p hx hy h
    cases hy with
    | cons hy1 hy2 =>
      simp only [foldV] at h
      split at h
      · rename_i u hu
        obtain ⟨r, h1, h2⟩ := hm hx hy1 hu
        obtain ⟨r', h3, h4⟩ := ih _ _ _ _ h2 hy2 h
        exact ⟨r', by simp [List.foldlM_cons, h1, h3], h4⟩
      · cases h
theorem max2_ok {x y z : V T} {p q : Value} (hx : Rep E g x p) (hy : Rep E g y q) (h : max2 x y = some z) : ∃ r, (Builtin.max2 p q).run P w = .ok r w ∧ Rep E g z r := by
  unfold max2 at h
  split at h
  · simp only [Option.some.injEq] at h
    subst h
    rw [hx.int_inv, hy.int_inv]
    exact ⟨_, rfl, .int _ _ _⟩
  · cases h
theorem min2_ok {x y z : V T} {p q : Value} (hx : Rep E g x p) (hy : Rep E g y q) (h : min2 x y = some z) : ∃ r, (Builtin.min2 p q).run P w = .ok r w ∧ Rep E g z r := by
  unfold min2 at h
  split at h
  · simp only [Option.some.injEq] at h
    subst h
    rw [hx.int_inv, hy.int_inv]
    exact ⟨_, rfl, .int _ _ _⟩
  · cases h

/-! ### Stores -/
theorem splice_spec {cs us cs' : List (V T)} {off : Nat} (h : splice cs off us = some cs') : off + us.length ≤ cs.length ∧ cs' = cs.take off ++ us ++ cs.drop (off + us.length) := by
  unfold splice at h
  split at h
  · rename_i hb
    simp only [Option.some.injEq] at h
    exact ⟨Nat.le_of_ble_eq_true hb, h.symm⟩
  · cases h
theorem Reps.spliced {cs us : List (V T)} {vs xs : List Value} {off : Nat} (h : Reps E g cs vs) (k : Reps E g us xs) : Reps E g (cs.take off ++ us ++ cs.drop (off + us.length)) (spliced vs off xs) := by
  unfold AI.spliced
  rw [← k.length]
  exact ((h.take off).append k).append (h.drop _)
/-- The cells of a block that is not frozen are written. -/
theorem storeAt_ok {t b off : Nat} {v : Value} {vs : List Value} {bt : TypeId} (hs : Sized P E t) (hv : v.cells.size = E.size t) (h1 : One v.cells.toList) (hb : w.heap[b]? = some (.cells ⟨vs⟩ bt (0, 0)))
    (hl : off + v.cells.size ≤ vs.length) : (Instr.storeAt t (.pointer (some ⟨b, off, none⟩)) v).run P w = .ok () (w.setCells b off v.cells.toList) := by
  obtain ⟨i, hi, his⟩ := hs
  have hc : ∀ j, j < v.cells.toList.length → (w.cell? ⟨b, off + 0 + j, none⟩).isSome = true := fun j hj => by
    rw [cell?_cells hb]
    have : off + j < vs.length := by rw [Array.length_toList] at hj; omega
    simp [this]
  have hf : ∀ j, j < v.cells.toList.length → w.frozen? ⟨b, off + 0 + j, none⟩ = false := fun j hj => by
    simp [World.frozen?, hb]
  have := run_storeCells_cells (P := P) b off v.cells.toList 0 w hc hf h1
  simp [Instr.storeAt, Instr.sureAddr, storeVar, run_sizeOf' hi, his, hv, this]

theorem set_same {α : Type} {M : List α} {i : Nat} {l : α} (h : M[i]? = some l) : M.set i l = M := by
  apply List.ext_getElem?
  intro j
  rw [List.getElem?_set]
  split
  · rename_i hij
    subst hij
    obtain ⟨h1, h2⟩ := List.getElem?_eq_some_iff.1 h
    simp [h1, h2]
  · rfl
theorem spliced_get {c us : List Value} {off : Nat} (h : off + us.length ≤ c.length) (k : Nat) :
    (AI.spliced c off us)[k]? = if off ≤ k ∧ k < off + us.length then us[k - off]? else c[k]? := by
  unfold AI.spliced
  rw [List.getElem?_append, List.getElem?_append]
  simp only [List.length_append, List.length_take, Nat.min_eq_left (show off ≤ c.length by omega)]
  by_cases h1 : k < off
  · rw [if_pos (by omega), if_pos h1, if_neg (by omega), List.getElem?_take, if_pos h1]
  · by_cases h2 : k < off + us.length
    · rw [if_pos h2, if_neg h1, if_pos (by omega)]
    · rw [if_neg h2, if_neg (by omega), List.getElem?_drop]
      congr 1
      omega
theorem spliced_in {c us : List Value} {p off n : Nat} (h : off + us.length ≤ n) (hn : p + n ≤ c.length) : ((AI.spliced c (p + off) us).drop p).take n = AI.spliced ((c.drop p).take n) off us := by
  apply List.ext_getElem?
  intro k
  have hl : ((c.drop p).take n).length = n := by simp; omega
  rw [spliced_get (by omega), List.getElem?_take, List.getElem?_take, List.getElem?_drop, List.getElem?_drop, spliced_get (by omega)]
  by_cases h1 : k < n
  · rw [if_pos h1, if_pos h1]
    by_cases h2 : off ≤ k ∧ k < off + us.length
    · rw [if_pos (by omega), if_pos h2]
      congr 1
      omega
    · rw [if_neg (by omega), if_neg h2]
  · rw [if_neg h1, if_neg (by omega), if_neg h1]
theorem spliced_out {c us : List Value} {p off n : Nat} (h : off + us.length ≤ c.length) (hd : p + n ≤ off ∨ off + us.length ≤ p) : ((AI.spliced c off us).drop p).take n = (c.drop p).take n := by
  apply List.ext_getElem?
  intro k
  rw [List.getElem?_take, List.getElem?_take, List.getElem?_drop, List.getElem?_drop, spliced_get h]
  by_cases h1 : k < n
  · rw [if_pos h1, if_pos h1, if_neg (by omega)]
  · rw [if_neg h1, if_neg h1]
theorem spliced_one {vs us : List Value} {off : Nat} (h : One vs) (k : One us) : One (AI.spliced vs off us) := ((h.take _).append k).append (h.drop _)
/-- An object is written to, where it lies. -/
theorem Inv.write (hi : Inv E g st w) {w' : World} {i : Nat} {ob ob' : Ob T} {l : Loc} (h1 : st[i]? = some ob) (h2 : g.M[i]? = some l) (hok : ObOk E g w' ob' l)
    (hkeep : ∀ b, l.block ≠ some b → w'.heap[b]? = w.heap[b]?) (hfro : ∀ b off v, g.G b off = some v → l.block = some b → w'.cell? ⟨b, off, none⟩ = some v)
    (hos : w'.os = w.os) (htape : w'.tape = w.tape) (hout : w'.output = w.output) (hsize : w'.heap.size = w.heap.size) : To E g w g (st.set i ob') w' := by
  have hset := set_same h2
  have := hi.step (w' := w') (ob' := ob') (l' := l) (G' := g.G) h1 h2 (.refl _) (.refl _) (fun b off v hv => by
      by_cases hb : l.block = some b
      · exact hfro b off v hv hb
      · rw [cell?_block (hkeep b hb)]; exact hi.froz b off v hv)
    hos htape hout (by omega) (fun b _ hne => ⟨hkeep b hne, fun _ => rfl⟩) (fun b hb => .inl hb) (by rw [hset]; exact hok)
  rw [hset] at this
  exact ⟨this.2.2, this.1, this.2.1⟩
theorem store_ok (hE : EnvOk P E) {t : Nat} {x y : Operand} (hi : Inv E g st w) (hf : FrOk E g fr a.tmps) {k : Ask T} (h : storeA E fr o t x y = some k) (hop : o.op = .store t x y) :
    SoundAsk P E g st w ((execOp a.eval o).run P w) k := by
  unfold storeA at h
  split at h
  case h_2 => cases h
  rename_i av xv hx hy
  have hav := evalO_ok hf hx
  have hxv := (evalO_ok hf hy).coerce (E := E) t
  generalize hu : coerce E t xv = u at h hxv
  unfold storeV at h
  split at h
  · cases h
  rename_i hck
  simp only [Bool.and_eq_true] at hck
  obtain ⟨⟨hlv, hlen⟩, hkn⟩ := hck
  have hlen' : u.cells.length = E.size t := Nat.eq_of_beq_eq_true hlen
  have hcells := hxv.cells
  have hone := hcells.one hlv
  have hsz : (a.eval y).cells.size = E.size t := by rw [← hlen', hcells.length, Array.length_toList]
  have hSized : Sized P E t := by
    have ht := hE.ty t
    cases hty : E.ty t <;> rw [hty] at ht hkn <;> first | exact ht.2.1 | (cases hkn; done)
  have run : ∀ {b off : Nat} {vs : List Value} {bt : TypeId}, a.eval x = .pointer (some ⟨b, off, none⟩) → w.heap[b]? = some (.cells ⟨vs⟩ bt (0, 0)) → off + (a.eval y).cells.size ≤ vs.length →
      (execOp a.eval o).run P w = .ok .skip (w.setCells b off (a.eval y).cells.toList) := fun h1 h2 h3 => by
    have := storeAt_ok (P := P) hSized hsz hone h2 h3
    simp [execOp, hop, h1, this]
  split at h
  · rename_i i off
    simp only [Option.some.injEq] at h
    subst h
    intro ob ob' v hob hk
    obtain ⟨b, hM, h2⟩ := hav.ptr_inv
    have hok := hi.obs i _ _ hob hM
    unfold storeBox at hk
    split at hk
    · rename_i bt cs
      split at hk
      · rename_i cs' hsp
        simp only [Option.some.injEq, Prod.mk.injEq, true_and] at hk
        obtain ⟨rfl, rfl⟩ := hk
        obtain ⟨hl, rfl⟩ := splice_spec hsp
        obtain ⟨vs, h3, h4, h5, h6⟩ := hok
        have hl4 := h4.length
        have hl5 := hcells.length
        rw [Array.length_toList] at hl5
        have hb' := setCells_heap (a.eval y).cells.toList vs off w h3 (by rw [Array.length_toList]; omega)
        obtain ⟨e1, e2, e3, e4⟩ := setCells_rest (b := b) (a.eval y).cells.toList off w
        have hok' : ObOk E g (w.setCells b off (a.eval y).cells.toList) (.box bt (cs.take off ++ u.cells ++ cs.drop (off + u.cells.length))) (.box b) :=
          ⟨_, hb', h4.spliced hcells, spliced_one h5 hone, h6⟩
        have hstep := hi.write hob hM hok' (fun b' hne => setCells_other (fun e => hne (by rw [e]; rfl)) _ _ _) (fun b' off' v' hv' hbl => by
          simp only [Loc.block, Option.some.injEq] at hbl
          subst hbl
          rw [h6] at hv'; cases hv') e1 e2 e3 e4
        exact ⟨_, _, run h2 h3 (by omega), hstep⟩
      · cases hk
    · cases hk
  · rename_i i j off
    simp only [Option.some.injEq] at h
    subst h
    intro ob ob' v hob hk
    obtain ⟨b, n, sz, hM, hj, h2⟩ := hav.elt_inv
    have hok := hi.obs i _ _ hob hM
    unfold storeElt at hk
    split at hk
    · rename_i e xs
      split at hk
      · rename_i cs' hsp
        split at hk
        · rename_i z hz
          simp only [Option.some.injEq, Prod.mk.injEq, true_and] at hk
          obtain ⟨rfl, rfl⟩ := hk
          obtain ⟨hl, rfl⟩ := splice_spec hsp
          obtain ⟨h7, h8, h9, vs, h10, h11, h12⟩ := hok
          subst h7; subst h8
          have hx : xs[j]? = some (xs.getD j (E.dflt e)) := by simp [List.getD, hj]
          have hel := h12 j _ hx
          have hen := hE.encLen e (xs.getD j (E.dflt e))
          have hl5 := hcells.length
          rw [Array.length_toList] at hl5
          rw [hen] at hl
          have hmul : j * E.size (E.num e) + E.size (E.num e) ≤ xs.length * E.size (E.num e) := by
            have := Nat.mul_le_mul_right (E.size (E.num e)) (show j + 1 ≤ xs.length by omega)
            rwa [Nat.add_mul, Nat.one_mul] at this
          have hb' := setCells_heap (a.eval y).cells.toList vs (j * E.size (E.num e) + off) w h10 (by rw [Array.length_toList]; omega)
          obtain ⟨e1, e2, e3, e4⟩ := setCells_rest (b := b) (a.eval y).cells.toList (j * E.size (E.num e) + off) w
          have hok' : ObOk E g (w.setCells b (j * E.size (E.num e) + off) (a.eval y).cells.toList) (.arr e (xs.set j z)) (.arr b xs.length (E.size (E.num e))) := by
            refine ⟨by simp, rfl, h9, _, hb', ?_, fun m x hm => ?_⟩
            · rw [spliced_length (by rw [Array.length_toList]; omega)]
              exact h11
            · have hlu : (a.eval y).cells.toList.length = u.cells.length := by rw [Array.length_toList]; omega
              rw [List.getElem?_set] at hm
              split at hm
              · rename_i hjm
                subst hjm
                have hzx : z = x := by simpa [hj] using hm
                subst hzx
                rw [spliced_in (by omega) (by omega)]
                exact hE.dec g e _ _ _ hz ((Fcs.reps hel).spliced hcells)
              · rename_i hjm
                have hml : m < xs.length := (List.getElem?_eq_some_iff.1 hm).1
                rw [spliced_out (by omega)]
                · exact h12 m x hm
                · rcases Nat.lt_or_gt_of_ne hjm with hlt | hgt
                  · right
                    have := Nat.mul_le_mul_right (E.size (E.num e)) (show j + 1 ≤ m by omega)
                    rw [Nat.add_mul, Nat.one_mul] at this
                    omega
                  · left
                    have := Nat.mul_le_mul_right (E.size (E.num e)) (show m + 1 ≤ j by omega)
                    rw [Nat.add_mul, Nat.one_mul] at this
                    omega
          have hstep := hi.write hob hM hok' (fun b' hne => setCells_other (fun e => hne (by rw [e]; rfl)) _ _ _) (fun b' off' v' hv' hbl => by
            simp only [Loc.block, Option.some.injEq] at hbl
            subst hbl
            rw [h9] at hv'; cases hv') e1 e2 e3 e4
          exact ⟨_, _, run h2 h10 (by omega), hstep⟩
        · cases hk
      · cases hk
    · cases hk
  · cases h
end
end Go.Proofs.YtnenfgpjedddoaaGreat.AI

/- Each operation does what the abstract interpreter says: new variables; the cells of lists. -/
set_option linter.unusedVariables false
set_option linter.unusedSectionVars false
set_option linter.unusedSimpArgs false
namespace Go.Proofs.YtnenfgpjedddoaaGreat.AI
open Go

variable {K : Type} [DecidableEq K] {T : K → Type} {E : Env T} {P : Program}
section
variable {g : Gh} {st : List (Ob T)} {w : World} {fr : Fr T} {a : Act} (o : Oper)

theorem Inv.dead_loc (hi : Inv E g st w) {p : Nat} (hp : st[p]? = some .dead) : g.M[p]? = some .none := by
  have hlt : p < g.M.length := by rw [hi.len]; exact (List.getElem?_eq_some_iff.1 hp).1
  have h := hi.obs p .dead g.M[p] hp (by simp [hlt])
  have : g.M[p] = .none := by
    cases hl : g.M[p] <;> rw [hl] at h <;> first | rfl | cases h
  simp [hlt, this]
/-- A new block for a new object; some of its cells may be frozen at once. -/
theorem Inv.fresh (hi : Inv E g st w) {p : Nat} (hp : st[p]? = some .dead) {w' : World} {ob : Obj} (hh : w'.heap = w.heap.push ob) (hos : w'.os = w.os) (htape : w'.tape = w.tape) (hout : w'.output = w.output)
    {ob' : Ob T} {l' : Loc} {G' : Nat → Nat → Option Value} (hG : GLe g.G G') (hsame : ∀ b off, b < w.heap.size → G' b off = g.G b off)
    (hnew : ∀ b off v, w.heap.size ≤ b → G' b off = some v → w'.cell? ⟨b, off, none⟩ = some v)
    (hbl : ∀ b, l'.block = some b → b = w.heap.size) (hok : ObOk E ⟨G', g.M.set p l'⟩ w' ob' l') : To E g w ⟨G', g.M.set p l'⟩ (st.set p ob') w' := by
  have hold : ∀ b, b < w.heap.size → w'.heap[b]? = w.heap[b]? := fun b hb => by rw [hh, Array.getElem?_push, if_neg (by omega)]
  have := hi.step (w' := w') (ob' := ob') (l' := l') (G' := G') hp (hi.dead_loc hp) trivial hG
    (fun b off v hv => by
      by_cases hb : b < w.heap.size
      · rw [cell?_block (hold b hb)]
        rw [hsame b off hb] at hv
        exact hi.froz b off v hv
      · exact hnew b off v (by omega) hv)
    hos htape hout (by rw [hh]; simp) (fun b hb _ => ⟨hold b hb, fun off => hsame b off hb⟩) (fun b hb => .inr (by rw [hbl b hb]; exact Nat.le_refl _)) hok
  exact ⟨this.2.2, this.1, this.2.1⟩
theorem Inv.fresh_le (hi : Inv E g st w) {p : Nat} (hp : st[p]? = some .dead) {l' : Loc} {G' : Nat → Nat → Option Value} (hG : GLe g.G G') : g.Le ⟨G', g.M.set p l'⟩ := by
  refine ⟨hG, fun j lj hj => ?_⟩
  by_cases hji : p = j
  · subst hji
    rw [hi.dead_loc hp] at hj
    cases hj
    exact ⟨l', by simp [(List.getElem?_eq_some_iff.1 (hi.dead_loc hp)).1], trivial⟩
  · exact ⟨lj, by simp [List.getElem?_set_ne hji, hj], .refl _⟩
theorem Inv.fresh_at (hi : Inv E g st w) {p : Nat} (hp : st[p]? = some .dead) (l' : Loc) : (g.M.set p l')[p]? = some l' := by
  simp [(List.getElem?_eq_some_iff.1 (hi.dead_loc hp)).1]
theorem Inv.glt' (hi : Inv E g st w) {b off : Nat} (hb : w.heap.size ≤ b) : g.G b off = none := by
  cases h : g.G b off with
  | none => rfl
  | some v => exact absurd (hi.glt h) (by omega)

/-- A new variable. -/
theorem newVar_ok (hi : Inv E g st w) {p t : Nat} (hp : st[p]? = some .dead) {cs : List (V T)} {x : Value} (h : Reps E g cs x.cells.toList) (h1 : One x.cells.toList) :
    ∃ g' w', (newVar t x).run P w = .ok ⟨w.heap.size, 0, none⟩ w' ∧ To E g w g' (st.set p (.box t cs)) w' ∧ g'.M[p]? = some (.box w.heap.size) := by
  refine ⟨⟨g.G, g.M.set p (.box w.heap.size)⟩, { w with heap := w.heap.push (.cells x.cells t) }, rfl, ?_, hi.fresh_at hp _⟩
  refine hi.fresh (w' := { w with heap := w.heap.push (.cells x.cells t) }) (ob := .cells x.cells t) (l' := .box w.heap.size) (G' := g.G) hp rfl rfl rfl rfl (.refl _) (fun _ _ _ => rfl)
    (fun b off v hb hv => by rw [hi.glt' hb] at hv; cases hv) (fun b hb => by simp only [Loc.block, Option.some.injEq] at hb; exact hb.symm) ?_
  refine ⟨x.cells.toList, ?_, h.mono (hi.fresh_le hp (.refl _)), h1, fun off => hi.glt' (Nat.le_refl _)⟩
  simp
theorem alloc_ok (hE : EnvOk P E) {t : Nat} (hi : Inv E g st w) (hf : FrOk E g fr a.tmps) {k : Ask T} (h : allocA E fr o t = some k) (hop : o.op = .alloc t) :
    SoundAsk P E g st w ((execOp a.eval o).run P w) k := by
  unfold allocA at h
  cases hz : zeroC E t with
  | none => simp [hz] at h
  | some cs =>
    simp only [hz, Option.map_some, Option.some.injEq] at h
    subst h
    intro _ p hp
    obtain ⟨i, z, vs, h1, h2, h3, h4, h5, h6⟩ := hE.zero t cs hz
    have hzc : z.cells.toList = vs := by
      unfold CellsOf at h3
      split at h3
      · subst h3; rfl
      · subst h3
        have := h4 z (by simp)
        cases z <;> first | rfl | (cases this; done)
    obtain ⟨g', w', h7, h8, h9⟩ := newVar_ok (P := P) (t := t) hi hp (x := z) (by rw [hzc]; exact h6 g) (by rw [hzc]; exact h4)
    refine ⟨g', w', _, ?_, h8, .ptr h9⟩
    simp [execOp, hop, Instr.alloc, zeroValue, typeInfo, h1, h2, h7]
theorem box_ok {t : Nat} {x : Operand} (hi : Inv E g st w) (hf : FrOk E g fr a.tmps) {k : Ask T} (h : boxA E fr o t x = some k) (hop : o.op = .box t x) :
    SoundAsk P E g st w ((execOp a.eval o).run P w) k := by
  unfold boxA at h
  split at h
  · rename_i v hx
    split at h
    · rename_i hl
      simp only [Option.some.injEq] at h
      subst h
      intro _ p hp
      have hv := (evalO_ok hf hx).coerce (E := E) t
      obtain ⟨g', w', h7, h8, h9⟩ := newVar_ok (P := P) (t := t) hi hp hv.cells (hv.cells.one hl)
      refine ⟨g', w', _, ?_, h8, .ptr h9⟩
      simp [execOp, hop, Instr.box, h7]
    · cases h
  · cases h

/-! ### The cells of a list -/
/-- These are the cells of the elements, one behind the other. -/
structure Elems (E : Env T) (G : Nat → Nat → Option Value) (e : K) (xs : List (T e)) (cs : List Value) : Prop where
  len : cs.length = xs.length * E.size (E.num e)
  el : ∀ (j : Nat) x, xs[j]? = some x → Fcs E G (E.enc e x) ((cs.drop (j * E.size (E.num e))).take (E.size (E.num e)))
theorem Elems.nil (G : Nat → Nat → Option Value) (e : K) : Elems E G e [] [] := ⟨by simp, fun j x h => by simp at h⟩
theorem Elems.mono {G G' : Nat → Nat → Option Value} (hG : GLe G G') {e : K} {xs : List (T e)} {cs : List Value} (h : Elems E G e xs cs) : Elems E G' e xs cs :=
  ⟨h.len, fun j x hx => (h.el j x hx).mono hG⟩
theorem Elems.append {G : Nat → Nat → Option Value} {e : K} {xs ys : List (T e)} {cs ds : List Value} (h : Elems E G e xs cs) (k : Elems E G e ys ds) : Elems E G e (xs ++ ys) (cs ++ ds) := by
  refine ⟨by simp [h.len, k.len, Nat.add_mul], fun j x hx => ?_⟩
  rw [List.getElem?_append] at hx
  split at hx
  · rename_i hj
    have hm := Nat.mul_le_mul_right (E.size (E.num e)) (show j + 1 ≤ xs.length by omega)
    rw [Nat.add_mul, Nat.one_mul, ← h.len] at hm
    rw [List.drop_append_of_le_length (by omega), List.take_append_of_le_length (by rw [List.length_drop]; omega)]
    exact h.el j x hx
  · rename_i hj
    have hd : (cs ++ ds).drop (j * E.size (E.num e)) = ds.drop ((j - xs.length) * E.size (E.num e)) := by
      rw [List.drop_append, List.drop_eq_nil_of_le, List.nil_append]
      · congr 1
        rw [h.len, Nat.sub_mul]
      · rw [h.len]
        exact Nat.mul_le_mul_right _ (by omega)
    rw [hd]
    exact k.el _ x hx
theorem Elems.one {G : Nat → Nat → Option Value} {e : K} {xs : List (T e)} {cs : List Value} (hs : 0 < E.size (E.num e)) (h : Elems E G e xs cs) : One cs := by
  intro v hv
  obtain ⟨i, hi⟩ := List.getElem?_of_mem hv
  have hlt : i < cs.length := (List.getElem?_eq_some_iff.1 hi).1
  have hj : i / E.size (E.num e) < xs.length := by
    rw [Nat.div_lt_iff_lt_mul hs, ← h.len]
    exact hlt
  refine (h.el _ _ (List.getElem?_eq_getElem hj)).one v (List.mem_of_getElem? (i := i % E.size (E.num e)) ?_)
  rw [List.getElem?_take, if_pos (Nat.mod_lt _ hs), List.getElem?_drop, Nat.mul_comm, Nat.div_add_mod]
  exact hi
theorem Elems.fc {G : Nat → Nat → Option Value} {e : K} {xs : List (T e)} {cs : List Value} {b off cap : Nat} (h : Elems E G e xs cs) (hz : Fz G b off cs) (hc : xs.length ≤ cap) :
    Fc E G (.sl e xs .no) (.slice (some ⟨b, off, none⟩) xs.length cap) :=
  .sl e xs b off cap (fun j => (cs.drop (j * E.size (E.num e))).take (E.size (E.num e))) hc h.el (fun j x hx k v hv => by
    rw [List.getElem?_take] at hv
    split at hv
    · have := hz.drop (j * E.size (E.num e)) k v hv
      exact this
    · cases hv)
/-- The cells of a list that lies in frozen memory. -/
theorem Fc.elems (hE : EnvOk P E) {G : Nat → Nat → Option Value} {e : K} {b off n cap : Nat} : ∀ {xs : List (T e)}, Fc E G (.sl e xs .no) (.slice (some ⟨b, off, none⟩) n cap) → ∃ cs, Elems E G e xs cs ∧ Fz G b off cs := by
  intro xs h
  cases h with
  | sle => exact ⟨[], Elems.nil G e, fun k v hv => by simp at hv⟩
  | sl _ _ _ _ _ css hc hs hz =>
    suffices H : ∀ m, m ≤ xs.length → ∃ cs, Elems E G e (xs.take m) cs ∧ Fz G b off cs by
      obtain ⟨cs, h1, h2⟩ := H xs.length (Nat.le_refl _)
      rw [List.take_length] at h1
      exact ⟨cs, h1, h2⟩
    intro m
    induction m with
    | zero => exact fun _ => ⟨[], by simpa using Elems.nil G e, fun k v hv => by simp at hv⟩
    | succ m ih =>
      intro hm
      obtain ⟨cs, h1, h2⟩ := ih (by omega)
      have hx : xs[m]? = some xs[m] := List.getElem?_eq_getElem (by omega)
      have hl : (css m).length = E.size (E.num e) := by rw [← (hs m _ hx).length, hE.encLen]
      have hone : Elems E G e [xs[m]] (css m) := by
        refine ⟨by simp [hl], fun j x hj => ?_⟩
        cases j with
        | zero =>
          simp only [List.getElem?_cons_zero, Option.some.injEq] at hj
          subst hj
          simp only [Nat.zero_mul, List.drop_zero]
          rw [← hl, List.take_length]
          exact hs m _ hx
        | succ j => simp at hj
      refine ⟨cs ++ css m, ?_, fun k v hv => ?_⟩
      · rw [List.take_succ_eq_append_getElem (by omega)]
        exact h1.append hone
      · rw [List.getElem?_append] at hv
        split at hv
        · exact h2 k v hv
        · have := hz m _ hx _ v hv
          have hcl : cs.length = m * E.size (E.num e) := by rw [h1.len, List.length_take, Nat.min_eq_left (by omega)]
          rw [hcl] at this
          rename_i hk
          rwa [show off + m * E.size (E.num e) + (k - m * E.size (E.num e)) = off + k by omega] at this
end
end Go.Proofs.YtnenfgpjedddoaaGreat.AI

/- Each operation does what the abstract interpreter says: append. -/
set_option linter.unusedVariables false
set_option linter.unusedSectionVars false
set_option linter.unusedSimpArgs false
namespace Go.Proofs.YtnenfgpjedddoaaGreat.AI
open Go

variable {K : Type} [DecidableEq K] {T : K → Type} {E : Env T} {P : Program}
section
variable {g : Gh} {st : List (Ob T)} {w : World} {fr : Fr T} {a : Act} (o : Oper)

/-- The cells of a list, as 'append' reads them. -/
theorem firstCells_ok (hE : EnvOk P E) (hi : Inv E g st w) {e : K} {ys : List (T e)} {xb : Option Addr} {m c : Nat} (h : Fc E g.G (.sl e ys .no) (.slice xb m c)) :
    ∃ news, Elems E g.G e ys news ∧ (Builtin.firstCells (E.size (E.num e)) m (.slice xb m c)).run P w = .ok ⟨news⟩ w := by
  have hm := h.len.1
  cases xb with
  | none => cases h; exact ⟨[], Elems.nil _ e, rfl⟩
  | some ad =>
    by_cases hsp : ∃ b off, ad = ⟨b, off, none⟩
    case neg =>
      cases h with
      | sl => exact absurd ⟨_, _, rfl⟩ hsp
      | sle => exact ⟨[], Elems.nil _ e, by simp [Builtin.firstCells, loadCells, loadCellsFrom]⟩
    obtain ⟨b, off, rfl⟩ := hsp
    obtain ⟨cs, h1, h2⟩ := h.elems hE
    refine ⟨cs, h1, ?_⟩
    have := run_loadAgg (P := P) (h2.at hi) (n := m * E.size (E.num e)) (by rw [h1.len, hm]; exact Nat.le_refl _)
    rw [show cs.take (m * E.size (E.num e)) = cs by rw [hm, ← h1.len, List.take_length]] at this
    simpa [Builtin.firstCells] using this

theorem append_room (hE : EnvOk P E) (hi : Inv E g st w) {t u ty : Nat} {e : K} (ht : P.underlying t = some (.slice (E.num e))) (hu : P.underlying u = some (.slice (E.num e))) {ys : List (T e)} {base xb : Option Addr} {n cap m c : Nat}
    {news : List Value} (hn : Elems E g.G e ys news) (hr : (Builtin.firstCells (E.size (E.num e)) m (.slice xb m c)).run P w = .ok ⟨news⟩ w) (hroom : n + m ≤ cap) {w' : World}
    (hst : ∀ ad, base = some ad → (storeCells (ad.add (n * E.size (E.num e))) news).run P w = .ok () w') (hbn : base = none → w' = w) :
    (Builtin.append_ #[t, u] ty #[.slice base n cap, .slice xb m c]).run P w = .ok (.slice base (n + m) cap) w' := by
  obtain ⟨inf, z, h1, h2, h3, h4, h5, h6, h7⟩ := hE.elem e
  cases base with
  | none =>
    have := hbn rfl
    subst this
    simp [Builtin.append_, run_underlying ht, run_underlying hu, run_sizeOf' h1, h3, Builtin.lenOf, hroom, hr]
  | some ad =>
    have := hst ad rfl
    simp [Builtin.append_, run_underlying ht, run_underlying hu, run_sizeOf' h1, h3, Builtin.lenOf, hroom, hr, this]

theorem Inv.drew (hi : Inv E g st w) : Inv E g st w.drew := ⟨hi.froz, hi.len, hi.obs, hi.apart, hi.glob, hi.ints⟩
theorem append_grow (hE : EnvOk P E) (hi : Inv E g st w) {t u ty : Nat} {e : K} (ht : P.underlying t = some (.slice (E.num e))) (hu : P.underlying u = some (.slice (E.num e))) {xs ys : List (T e)} {base xb : Option Addr} {n cap m c : Nat}
    {olds news : List Value} (ho : Elems E g.G e xs olds) (hor : (Builtin.firstCells (E.size (E.num e)) n (.slice base n cap)).run P w.drew = .ok ⟨olds⟩ w.drew) (hxn : n = xs.length) (hym : m = ys.length)
    (hn : Elems E g.G e ys news) (hr : (Builtin.firstCells (E.size (E.num e)) m (.slice xb m c)).run P w.drew = .ok ⟨news⟩ w.drew) (hfull : cap < n + m) (hb : (n + m) * E.bytes e ≤ 140737488355328) :
    ∃ nc w' rest, (Builtin.append_ #[t, u] ty #[.slice base n cap, .slice xb m c]).run P w = .ok (.slice (some ⟨w.heap.size, 0, none⟩) (n + m) nc) w' ∧ n + m ≤ nc ∧
      w'.heap = w.heap.push (.cells ⟨olds ++ news ++ rest⟩ (E.num e)) ∧ (olds ++ news ++ rest).length = nc * E.size (E.num e) ∧ w'.os = w.os ∧ w'.tape = w.tape ∧ w'.output = w.output := by
  obtain ⟨inf, z, h1, h2, h3, h4, h5, h6, h7⟩ := hE.elem e
  have hfit : Builtin.nextslicecap (n + m) cap * inf.bytes ≤ 281474976710656 := growslice_fits hfull (by rw [h5]; exact hb)
  have hnm : n + m ≤ 140737488355328 := by
    have : (n + m) * 1 ≤ (n + m) * E.bytes e := Nat.mul_le_mul_left _ (by omega)
    omega
  have hn' : ¬ (n + m ≤ cap) := by omega
  have h63' : ¬ (9223372036854775807 < ((n : Int) + (m : Int))) := by omega
  have h48' : ¬ (281474976710656 < Builtin.nextslicecap (n + m) cap * inf.bytes) := by omega
  have hge := grownCap_ge w (n + m) cap (E.num e)
  rw [← h3] at hor hr
  refine ⟨grownCap w (n + m) cap (E.num e), w.drew.alloc (.cells ⟨olds ++ news ++ (Builtin.zeroCells z.cells (grownCap w (n + m) cap (E.num e) - (n + m))).toList⟩ (E.num e)),
    (Builtin.zeroCells z.cells (grownCap w (n + m) cap (E.num e) - (n + m))).toList, ?_, hge, rfl, ?_, rfl, rfl, rfl⟩
  · simp [Builtin.append_, run_underlying ht, run_underlying hu, sizeOf, typeInfo, zeroValue, h1, h2, Builtin.lenOf, hn', h63', h48', Question.forced, hor, hr, newRow, grownCap]
    congr 2
    apply Array.ext'
    simp
  · have hz : (Builtin.zeroCells z.cells (grownCap w (n + m) cap (E.num e) - (n + m))).toList.length = (grownCap w (n + m) cap (E.num e) - (n + m)) * E.size (E.num e) := by
      rw [Array.length_toList, size_zeroCells, h4, h3]
    rw [List.length_append, List.length_append, ho.len, hn.len, hz, ← hxn, ← hym, ← Nat.add_mul, ← Nat.add_mul]
    congr 1
    omega

/-- Frozen cells besides. -/
def plus (G : Nat → Nat → Option Value) (b off : Nat) (vs : List Value) : Nat → Nat → Option Value := fun b' o' =>
  if b' = b ∧ off ≤ o' ∧ o' < off + vs.length then vs[o' - off]? else G b' o'
theorem plus_fz (G : Nat → Nat → Option Value) (b off : Nat) (vs : List Value) : Fz (plus G b off vs) b off vs := fun k v hv => by
  have hk : k < vs.length := (List.getElem?_eq_some_iff.1 hv).1
  unfold plus
  rw [if_pos ⟨rfl, by omega, by omega⟩]
  rwa [Nat.add_sub_cancel_left]
theorem plus_other {G : Nat → Nat → Option Value} {b off b' o' : Nat} {vs : List Value} (h : b' ≠ b) : plus G b off vs b' o' = G b' o' := by
  unfold plus
  rw [if_neg (fun hc => h hc.1)]
theorem plus_out {G : Nat → Nat → Option Value} {b off o' : Nat} {vs : List Value} (h : o' < off ∨ off + vs.length ≤ o') : plus G b off vs b o' = G b o' := by
  unfold plus
  rw [if_neg (fun hc => by omega)]
theorem plus_le {G : Nat → Nat → Option Value} {b off : Nat} {vs : List Value} (h : ∀ o', off ≤ o' → o' < off + vs.length → G b o' = none) : GLe G (plus G b off vs) := fun b' o' v hv => by
  unfold plus
  by_cases hc : b' = b ∧ off ≤ o' ∧ o' < off + vs.length
  · obtain ⟨rfl, h1, h2⟩ := hc
    rw [h o' h1 h2] at hv
    cases hv
  · rw [if_neg hc]; exact hv

/-- A new array for a list that has grown. -/
theorem grown_ok (hE : EnvOk P E) (hi : Inv E g st w) {p : Nat} {ob : Ob T} {l : Loc} {ver : Nat} (hp : st[p]? = some ob) (hM : g.M[p]? = some l) (hle : ∀ b n c, l.Le (.vec ver b n c true)) {e : K} {xs : List (T e)} {cells rest : List Value} {nc : Nat}
    {w' : World} (hel : Elems E g.G e xs cells) (hn : xs.length ≤ nc)
    (hh : w'.heap = w.heap.push (.cells ⟨cells ++ rest⟩ (E.num e))) (hl : (cells ++ rest).length = nc * E.size (E.num e)) (hos : w'.os = w.os) (htape : w'.tape = w.tape) (hout : w'.output = w.output) :
    ∃ g', To E g w g' (st.set p (.vec e ver)) w' ∧ Rep E g' (.sl e xs (.tok p ver)) (.slice (some ⟨w.heap.size, 0, none⟩) xs.length nc) := by
  have hG : GLe g.G (plus g.G w.heap.size 0 cells) := plus_le fun o' _ _ => hi.glt' (Nat.le_refl _)
  have hnew : w'.heap[w.heap.size]? = some (.cells ⟨cells ++ rest⟩ (E.num e)) := by rw [hh]; simp
  have hold : ∀ b, b < w.heap.size → w'.heap[b]? = w.heap[b]? := fun b hb => by rw [hh, Array.getElem?_push, if_neg (by omega)]
  have hstep := hi.step (w' := w') (ob' := .vec e ver) (l' := .vec ver (some ⟨w.heap.size, 0, none⟩) xs.length nc true) (G' := plus g.G w.heap.size 0 cells) hp hM (hle _ _ _) hG
    (fun b off v hv => by
      by_cases hb : b = w.heap.size
      · subst hb
        rw [cell?_cells hnew]
        by_cases ho : off < cells.length
        · unfold plus at hv
          rw [if_pos ⟨rfl, by omega, by omega⟩] at hv
          rw [List.getElem?_append_left ho]
          simpa using hv
        · rw [plus_out (by omega), hi.glt' (Nat.le_refl _)] at hv
          cases hv
      · rw [plus_other hb] at hv
        rw [cell?_block (hold b (hi.glt hv))]
        exact hi.froz b off v hv)
    hos htape hout (by rw [hh]; simp) (fun b hb _ => ⟨hold b hb, fun off => plus_other (by omega)⟩)
    (fun b hb => .inr (by simp only [Loc.block, Option.some.injEq] at hb; omega))
    ⟨rfl, hn, fun h => (by cases h), fun _ => ⟨w.heap.size, cells ++ rest, rfl, hnew, hl, fun off ho => by
      show plus g.G w.heap.size 0 cells w.heap.size off = none
      rw [plus_out (.inr (by rw [hel.len]; omega))]
      exact hi.glt' (Nat.le_refl _)⟩⟩
  refine ⟨_, ⟨hstep.2.2, hstep.1, hstep.2.1⟩, ?_⟩
  refine .sltok ((hel.mono hG).fc (plus_fz _ _ _ _) hn) (ver' := ver) (a' := some ⟨w.heap.size, 0, none⟩) (n' := xs.length) (cap' := nc) (m := true) ?_ (Nat.le_refl _) (fun _ => ⟨rfl, rfl, rfl⟩)
  simp [(List.getElem?_eq_some_iff.1 hM).1]

theorem listOf_ok {e : K} {x : V T} {ys : List (T e)} {p : Value} (hx : Rep E g x p) (h : listOf e x = some ys) : ∃ ad cap, Fc E g.G (.sl e ys .no) (.slice ad ys.length cap) ∧ p = .slice ad ys.length cap := by
  unfold listOf at h
  split at h
  · rename_i e' zs ow
    split at h
    · rename_i hee he
      subst hee
      simp only [Option.some.injEq] at h
      subst h
      obtain ⟨ad, cap, h1, h2⟩ := hx.sl_inv
      rw [h2] at h1
      exact ⟨ad, cap, h1, h2⟩
    · cases h
  · simp only [Option.some.injEq] at h
    subst h
    exact ⟨none, 0, .sl0 e, hx.nsl_inv⟩
  · cases h

/-- The arm that makes a new array. -/
theorem app_grow (hE : EnvOk P E) {t u ty : Nat} {e : K} (hi : Inv E g st w) (ht : P.underlying t = some (.slice (E.num e))) (hu : P.underlying u = some (.slice (E.num e))) {xs ys : List (T e)} {ad xb : Option Addr} {cap c : Nat}
    (hfx : Fc E g.G (.sl e xs .no) (.slice ad xs.length cap)) (hfy : Fc E g.G (.sl e ys .no) (.slice xb ys.length c)) (hfull : cap < xs.length + ys.length) (hb : (xs.length + ys.length) * E.bytes e ≤ 140737488355328)
    {p ver : Nat} {ob : Ob T} {l : Loc} (hp : st[p]? = some ob) (hM : g.M[p]? = some l) (hle : ∀ b n c, l.Le (.vec ver b n c true)) {r : Result Next}
    (hr : ∀ v w', (Builtin.append_ #[t, u] ty #[.slice ad xs.length cap, .slice xb ys.length c]).run P w = .ok v w' → r = .ok (.value v) w') : Gives E g w r (st.set p (.vec e ver)) (.sl e (xs ++ ys) (.tok p ver)) := by
  obtain ⟨olds, ho, hor⟩ := firstCells_ok hE hi.drew hfx
  obtain ⟨news, hn, hnr⟩ := firstCells_ok hE hi.drew hfy
  obtain ⟨nc, w', rest, h1, h2, h3, h4, h5, h6, h7⟩ := append_grow (ty := ty) hE hi ht hu ho hor rfl rfl hn hnr hfull hb
  obtain ⟨g', h8, h9⟩ := grown_ok hE hi hp hM hle (ho.append hn) (by rw [List.length_append]; exact h2) h3 h4 h5 h6 h7
  rw [List.length_append] at h9
  exact ⟨g', w', _, hr _ _ h1, h8, h9⟩
/-- Nothing is appended. -/
theorem app_none (hE : EnvOk P E) {t u ty : Nat} {e : K} (hi : Inv E g st w) (ht : P.underlying t = some (.slice (E.num e))) (hu : P.underlying u = some (.slice (E.num e))) {xs : List (T e)} {ad xb : Option Addr} {cap c : Nat}
    (hfx : Fc E g.G (.sl e xs .no) (.slice ad xs.length cap)) (hfy : Fc E g.G (.sl e ([] : List (T e)) .no) (.slice xb 0 c))
    {p ver : Nat} {ob : Ob T} {l l' : Loc} (hp : st[p]? = some ob) (hM : g.M[p]? = some l) (mine : Bool) (hl' : l' = .vec ver ad xs.length cap mine) (hle : l.Le l') (hblk : ∀ b, l'.block = some b → l.block = some b) (hok : ObOk E ⟨g.G, g.M.set p l'⟩ w (.vec e ver) l') {r : Result Next}
    (hr : ∀ v w', (Builtin.append_ #[t, u] ty #[.slice ad xs.length cap, .slice xb 0 c]).run P w = .ok v w' → r = .ok (.value v) w') : Gives E g w r (st.set p (.vec e ver)) (.sl e xs (.tok p ver)) := by
  obtain ⟨news, hn, hnr⟩ := firstCells_ok hE hi hfy
  have hnil : news = [] := List.eq_nil_of_length_eq_zero (by rw [hn.len]; simp)
  subst hnil
  have hrun := append_room (ty := ty) (n := xs.length) (cap := cap) (base := ad) (w' := w) hE hi ht hu hn hnr (by simpa using hfx.len.2) (fun ad' _ => rfl) (fun _ => rfl)
  have hstep := hi.step (w' := w) (ob' := .vec e ver) (l' := l') (G' := g.G) hp hM hle (.refl _) hi.froz rfl rfl rfl (Nat.le_refl _) (fun b _ _ => ⟨rfl, fun _ => rfl⟩) (fun b hb => .inl (hblk b hb)) hok
  refine ⟨_, w, _, hr _ _ hrun, ⟨hstep.2.2, hstep.1, hstep.2.1⟩, ?_⟩
  subst hl'
  refine .sltok hfx (ver' := ver) (a' := ad) (n' := xs.length) (cap' := cap) (m := mine) ?_ (Nat.le_refl _) (fun _ => ⟨rfl, rfl, rfl⟩)
  simp [(List.getElem?_eq_some_iff.1 hM).1]
/-- The arm that writes behind the list. -/
theorem app_room (hE : EnvOk P E) {t u ty : Nat} {e : K} (hi : Inv E g st w) (ht : P.underlying t = some (.slice (E.num e))) (hu : P.underlying u = some (.slice (E.num e))) {xs ys : List (T e)} {b : Nat} {xb : Option Addr} {cap c ver : Nat}
    (hfx : Fc E g.G (.sl e xs .no) (.slice (some ⟨b, 0, none⟩) xs.length cap)) (hfy : Fc E g.G (.sl e ys .no) (.slice xb ys.length c)) (hroom : xs.length + ys.length ≤ cap)
    {p : Nat} (hp : st[p]? = some (.vec e ver)) (hM : g.M[p]? = some (.vec ver (some ⟨b, 0, none⟩) xs.length cap true)) {r : Result Next}
    (hr : ∀ v w', (Builtin.append_ #[t, u] ty #[.slice (some ⟨b, 0, none⟩) xs.length cap, .slice xb ys.length c]).run P w = .ok v w' → r = .ok (.value v) w') :
    Gives E g w r (st.set p (.vec e (ver + 1))) (.sl e (xs ++ ys) (.tok p (ver + 1))) := by
  obtain ⟨inf, z, _, _, h3, _, _, _, h7⟩ := hE.elem e
  obtain ⟨news, hn, hnr⟩ := firstCells_ok hE hi hfy
  obtain ⟨olds, ho, hoz⟩ := hfx.elems hE
  obtain ⟨_, _, _, hok⟩ := hi.obs p _ _ hp hM
  obtain ⟨b', vs, hb', hv1, hv2, hv3⟩ := hok rfl
  simp only [Option.some.injEq, Addr.mk.injEq, and_true] at hb'
  subst hb'
  have hsz : 0 < E.size (E.num e) := by rw [← h3]; exact h7
  have hone := hn.one hsz
  have hfit : xs.length * E.size (E.num e) + news.length ≤ vs.length := by
    rw [hn.len, hv2, ← Nat.add_mul]
    exact Nat.mul_le_mul_right _ hroom
  have hst : (storeCells ⟨b, 0 + xs.length * E.size (E.num e), none⟩ news).run P w = .ok () (w.setCells b (0 + xs.length * E.size (E.num e) + 0) news) :=
    run_storeCells_cells b (0 + xs.length * E.size (E.num e)) news 0 w (fun j hj => by
      rw [cell?_cells hv1]
      have : xs.length * E.size (E.num e) + j < vs.length := by omega
      simp [this]) (fun j hj => by simp [World.frozen?, hv1]) hone
  simp only [Nat.zero_add, Nat.add_zero] at hst
  have hrun := append_room (ty := ty) (n := xs.length) (cap := cap) (base := some ⟨b, 0, none⟩) (w' := w.setCells b (xs.length * E.size (E.num e)) news) hE hi ht hu hn hnr hroom
    (fun ad had => by
      simp only [Option.some.injEq] at had
      subst had
      rw [Addr.add_mk, Nat.zero_add]
      exact hst) (fun h => by cases h)
  have hheap := setCells_heap news vs _ w hv1 hfit
  obtain ⟨e1, e2, e3, e4⟩ := setCells_rest (b := b) news (xs.length * E.size (E.num e)) w
  have hG : GLe g.G (plus g.G b (xs.length * E.size (E.num e)) news) := plus_le fun o' h1 _ => hv3 o' h1
  have hstep := hi.step (w' := w.setCells b (xs.length * E.size (E.num e)) news) (ob' := .vec e (ver + 1)) (l' := .vec (ver + 1) (some ⟨b, 0, none⟩) (xs.length + ys.length) cap true) (G' := plus g.G b (xs.length * E.size (E.num e)) news)
    hp hM ⟨by omega, fun h => by omega⟩ hG
    (fun b2 off v hv => by
      by_cases hb : b2 = b
      · subst hb
        rw [cell?_cells hheap, spliced_get hfit]
        by_cases hin : xs.length * E.size (E.num e) ≤ off ∧ off < xs.length * E.size (E.num e) + news.length
        · rw [if_pos hin]
          unfold plus at hv
          rwa [if_pos ⟨rfl, hin⟩] at hv
        · rw [if_neg hin, ← cell?_cells hv1]
          rw [plus_out (by omega)] at hv
          exact hi.froz _ _ _ hv
      · rw [plus_other hb] at hv
        rw [cell?_block (setCells_other hb _ _ _)]
        exact hi.froz _ _ _ hv)
    e1 e2 e3 (by omega) (fun b2 hb2 hne => ⟨setCells_other (fun e => hne (by rw [e]; rfl)) _ _ _, fun off => plus_other (fun e => hne (by rw [e]; rfl))⟩) (fun b2 hb2 => .inl hb2)
    ⟨rfl, hroom, fun h => (by cases h), fun _ => ⟨b, _, rfl, hheap, by rw [spliced_length hfit]; exact hv2, fun off ho' => by
      show plus g.G b (xs.length * E.size (E.num e)) news b off = none
      rw [Nat.add_mul] at ho'
      rw [plus_out (.inr (by rw [hn.len]; omega))]
      exact hv3 off (by omega)⟩⟩
  refine ⟨_, _, _, hr _ _ hrun, ⟨hstep.2.2, hstep.1, hstep.2.1⟩, ?_⟩
  have hfz : Fz (plus g.G b (xs.length * E.size (E.num e)) news) b 0 (olds ++ news) := fun k v hv => by
    rw [List.getElem?_append] at hv
    split at hv
    · exact hG _ _ _ (hoz k v hv)
    · rename_i hk
      have := plus_fz g.G b (xs.length * E.size (E.num e)) news _ v hv
      have hlen := ho.len
      rwa [show xs.length * E.size (E.num e) + (k - olds.length) = 0 + k by omega] at this
  have hel := ((ho.append hn).mono hG).fc (cap := cap) hfz (by rw [List.length_append]; exact hroom)
  rw [List.length_append] at hel
  refine .sltok hel (ver' := ver + 1) (a' := some ⟨b, 0, none⟩) (n' := xs.length + ys.length) (cap' := cap) (m := true) ?_ (Nat.le_refl _) (fun _ => ⟨rfl, rfl, rfl⟩)
  simp [(List.getElem?_eq_some_iff.1 hM).1]

theorem append_ok (hE : EnvOk P E) {t u ty : Nat} {e0 e1 : K} (hi : Inv E g st w) (ht : E.ty t = .slice e0) (hu : E.ty u = .slice e1) {s x : V T} {p q : Value} (hs : Rep E g s p) (hx : Rep E g x q) {k : Ask T} (h : appendV E e0 e1 s x = some k)
    {r : Result Next} (hr : ∀ v w', (Builtin.append_ #[t, u] ty #[p, q]).run P w = .ok v w' → r = .ok (.value v) w') : SoundAsk P E g st w r k := by
  have htt := hE.ty t
  rw [ht] at htt
  have htu := hE.ty u
  rw [hu] at htu
  unfold appendV at h
  split at h
  case h_2 => cases h
  rename_i e xs ow
  split at h
  case h_2 => cases h
  rename_i ys hys he
  simp only [Bool.and_eq_true, decide_eq_true_eq] at he
  obtain ⟨rfl, rfl⟩ := he
  obtain ⟨xb, c, hf, rfl⟩ := listOf_ok hx hys
  have fresh : ∀ {ad : Option Addr}, p = .slice ad xs.length xs.length → Fc E g.G (.sl e xs .no) (.slice ad xs.length xs.length) → fits E e xs ys = true → ∀ m, st[m]? = some .dead →
      Gives E g w r (st.set m (.vec e 0)) (.sl e (xs ++ ys) (.tok m 0)) := by
    intro ad hp hfx hb m hm
    subst hp
    have hb' : (xs.length + ys.length) * E.bytes e ≤ 140737488355328 := of_decide_eq_true hb
    by_cases hy : ys = []
    · subst hy
      rw [List.append_nil]
      exact app_none (l' := .vec 0 ad xs.length xs.length false) hE hi htt.1 htu.1 hfx hf hm (hi.dead_loc hm) false rfl trivial (fun b hb => by cases ad <;> cases hb) ⟨rfl, Nat.le_refl _, fun _ => rfl, fun h => by cases h⟩ hr
    · have : 0 < ys.length := List.length_pos_iff.2 hy
      exact app_grow (ver := 0) hE hi htt.1 htu.1 hfx hf (by omega) hb' hm (hi.dead_loc hm) (fun _ _ _ => trivial) hr
  split at h
  · simp only [Option.some.injEq] at h
    subst h
    intro hb m hm
    obtain ⟨h1, h2⟩ := hs.nil_slice
    subst h2
    exact fresh h1 (.sl0 _) hb m hm
  · simp only [Option.some.injEq] at h
    subst h
    intro hb m hm
    cases hs with
    | fc h => cases h
    | slfull h =>
      have := h.len.1
      subst this
      exact fresh rfl h hb m hm
  · rename_i i ver
    simp only [Option.some.injEq] at h
    subst h
    intro ob ob' v hob hk
    unfold appTok at hk
    split at hk
    · rename_i e' ver'
      split at hk
      · rename_i hck
        simp only [Bool.and_eq_true, decide_eq_true_eq] at hck
        obtain ⟨hv, rfl⟩ := hck
        have hv' := Nat.eq_of_beq_eq_true hv
        subst hv'
        simp only [Option.some.injEq, Prod.mk.injEq] at hk
        obtain ⟨hb, rfl, rfl⟩ := hk
        have hb' : (xs.length + ys.length) * E.bytes e ≤ 140737488355328 := of_decide_eq_true hb
        cases hs with
        | fc h => cases h
        | @sltok _ _ ad n cap _ _ ver'' a' n' cap' mine hfx hM hle heq =>
          have hok := hi.obs i _ _ hob hM
          have hver : ver = ver'' := hok.1
          subst hver
          obtain ⟨rfl, rfl, rfl⟩ := heq rfl
          have := hfx.len.1
          subst this
          by_cases hy : ys = []
          · subst hy
            rw [List.append_nil]
            refine app_none (l' := .vec (ver + 1) a' xs.length cap' mine) hE hi htt.1 htu.1 hfx hf hob hM mine rfl ⟨by omega, fun h => by omega⟩ (fun b hb => by cases mine <;> cases a' <;> exact hb) ?_ hr
            exact ⟨rfl, hok.2.1, hok.2.2.1, hok.2.2.2⟩
          · have hpos : 0 < ys.length := List.length_pos_iff.2 hy
            by_cases hroom : xs.length + ys.length ≤ cap'
            · cases mine with
              | false =>
                have := hok.2.2.1 rfl
                omega
              | true =>
                obtain ⟨b, vs, rfl, _⟩ := hok.2.2.2 rfl
                exact app_room hE hi htt.1 htu.1 hfx hf hroom hob hM hr
            · exact app_grow (ver := ver + 1) hE hi htt.1 htu.1 hfx hf (by omega) hb' hob hM (fun _ _ _ => ⟨by omega, fun h => by omega⟩) hr
      · cases hk
    · cases hk
  · cases h
end
end Go.Proofs.YtnenfgpjedddoaaGreat.AI

/- Each operation does what the abstract interpreter says: literals of structs and lists, new maps and arrays, iterators. -/
set_option linter.unusedVariables false
set_option linter.unusedSectionVars false
set_option linter.unusedSimpArgs false
namespace Go.Proofs.YtnenfgpjedddoaaGreat.AI
open Go

variable {K : Type} [DecidableEq K] {T : K → Type} {E : Env T} {P : Program}
section
variable {g : Gh} {st : List (Ob T)} {w : World} {fr : Fr T} {a : Act} (o : Oper)

theorem fold_sets : ∀ (vs : List Value) (k off : Nat) (cs : List Value), off + k + vs.length ≤ cs.length →
    ((vs.zipIdx k).foldl (fun (c : Array Value) (p : Value × Nat) => c.setIfInBounds (off + p.2) p.1) ⟨cs⟩) = ⟨AI.spliced cs (off + k) vs⟩
  | [], k, off, cs, h => by simp [AI.spliced]
  | v :: vs, k, off, cs, h => by
    simp only [List.length_cons] at h
    rw [List.zipIdx_cons, List.foldl_cons]
    have e1 : (⟨cs⟩ : Array Value).setIfInBounds (off + k) v = ⟨cs.set (off + k) v⟩ := by
      apply Array.ext'
      simp
    show (List.foldl _ ((⟨cs⟩ : Array Value).setIfInBounds (off + k) v) _) = _
    rw [e1, fold_sets vs (k + 1) off _ (by simp; omega), ← Nat.add_assoc, spliced_cons (by omega)]
/-- One part of a literal. -/
theorem fill_cons {place : Nat → Option (Nat × Nat)} {cs : List Value} {i off n : Nat} {v : Value} {rest : List (Nat × Value)} (hp : place i = some (off, n)) (hn : v.cells.size = n) (hl : off + n ≤ cs.length) :
    Instr.fill place ⟨cs⟩ ((i, v) :: rest) = Instr.fill place ⟨AI.spliced cs off v.cells.toList⟩ rest := by
  have hsz : (⟨cs⟩ : Array Value).size = cs.length := rfl
  have hf : v.cells.zipIdx.foldl (fun (c : Array Value) (p : Value × Nat) => c.setIfInBounds (off + p.2) p.1) ⟨cs⟩ = ⟨AI.spliced cs off v.cells.toList⟩ := by
    rw [← Array.foldl_toList, Array.toList_zipIdx]
    have := fold_sets v.cells.toList 0 off cs (by rw [Array.length_toList]; omega)
    simpa using this
  have hc : (v.cells.size ≠ n || off + v.cells.size > (⟨cs⟩ : Array Value).size) = false := by
    rw [hsz, hn]
    simp
    omega
  simp only [Instr.fill, hp]
  rw [if_neg (by rw [Bool.not_eq_true]; exact hc)]
  exact congrArg (fun c => Instr.fill place c rest) hf

/-- The parts of a literal, evaluated. -/
inductive Parts (E : Env T) (g : Gh) : List (Nat × V T) → List (Nat × Value) → Prop where
  | nil : Parts E g [] []
  | cons {i v x ps qs} (h : Rep E g v x) (hs : Parts E g ps qs) : Parts E g ((i, v) :: ps) ((i, x) :: qs)
theorem partsV_ok (hf : FrOk E g fr a.tmps) (ft : Nat → Nat) : ∀ (l : List (Nat × Operand)) (ps : List (Nat × V T)), partsV E fr ft l = some ps → Parts E g ps (l.map fun p => (p.1, a.eval p.2)) := by
  intro l
  induction l with
  | nil => intro ps h; simp only [partsV, Option.some.injEq] at h; subst h; exact .nil
  | cons p l ih =>
    obtain ⟨i, x⟩ := p
    intro ps h
    simp only [partsV] at h
    split at h
    · rename_i v vs h1 h2
      simp only [Option.some.injEq] at h
      subst h
      exact .cons ((evalO_ok hf h1).coerce _) (ih _ h2)
    · cases h
theorem fillC_ok {pl pl' : Nat → Option (Nat × Nat)} (hpl : ∀ i q, pl i = some q → pl' i = some q) : ∀ (ps : List (Nat × V T)) (qs : List (Nat × Value)) (cs cs' : List (V T)) (vs : List Value),
    fillC pl cs ps = some cs' → Parts E g ps qs → Reps E g cs vs → ∃ vs', Instr.fill pl' ⟨vs⟩ qs = some ⟨vs'⟩ ∧ Reps E g cs' vs' := by
  intro ps
  induction ps with
  | nil =>
    intro qs cs cs' vs h hp hr
    cases hp
    simp only [fillC, Option.some.injEq] at h
    subst h
    exact ⟨vs, rfl, hr⟩
  | cons p ps ih =>
    obtain ⟨i, v⟩ := p
    intro qs cs cs' vs h hp hr
    cases hp with
    | @cons _ _ x _ qs hv hs =>
      simp only [fillC] at h
      split at h
      · cases h
      · rename_i off n hpi
        split at h
        · rename_i hn
          have hn' := Nat.eq_of_beq_eq_true hn
          cases hsp : splice cs off v.cells with
          | none => simp [hsp] at h
          | some cs1 =>
            simp only [hsp, Option.bind_some] at h
            obtain ⟨hl, rfl⟩ := splice_spec hsp
            have hvl : v.cells.length = x.cells.size := by rw [hv.cells.length]; exact Array.length_toList
            have hcl := hr.length
            obtain ⟨vs', h1, h2⟩ := ih qs _ cs' _ h hs (hr.spliced hv.cells)
            refine ⟨vs', ?_, h2⟩
            rw [fill_cons (hpl _ _ hpi) (by omega) (by omega)]
            exact h1
        · cases h

theorem mapM_list {α β : Type} {f : α → Sem β} {h : α → β} : ∀ (l : List α), (∀ x ∈ l, (f x).run P w = .ok (h x) w) → (l.mapM f).run P w = .ok (l.map h) w
  | [], _ => by simp [List.mapM_nil]
  | x :: l, hx => by
    have h1 := hx x (List.mem_cons_self ..)
    have h2 := mapM_list l fun y hy => hx y (List.mem_cons_of_mem _ hy)
    simp [List.mapM_cons, h1, h2]
theorem zero_cells {t : Nat} {z : Value} {vs : List Value} (h : CellsOf E t z vs) (h1 : One vs) : z.cells.toList = vs := by
  unfold CellsOf at h
  split at h
  · subst h; rfl
  · subst h
    have := h1 z (by simp)
    cases z <;> first | rfl | (cases this; done)
theorem build_ok (hE : EnvOk P E) {t : Nat} {parts : Array (Nat × Operand)} (hi : Inv E g st w) (hf : FrOk E g fr a.tmps) {k : Ask T} (h : buildA E fr o t parts = some k) (hop : o.op = .build t parts) :
    SoundAsk P E g st w ((execOp a.eval o).run P w) k := by
  have ht := hE.ty t
  have hparts : (parts.map fun p => (p.1, a.eval p.2)).toList = parts.toList.map fun p => (p.1, a.eval p.2) := by simp
  have fin : ∀ {cs : List (V T)} {vs : List Value}, aggL cs = some k → Reps E g cs vs → (Instr.build t (parts.map fun p => (p.1, a.eval p.2))).run P w = .ok (.agg ⟨vs⟩) w → SoundAsk P E g st w ((execOp a.eval o).run P w) k := fun h1 h2 h3 => by
    unfold aggL at h1
    split at h1
    · rename_i hl
      simp only [Option.some.injEq] at h1
      subst h1
      exact .here hi (by simp [execOp, hop, h3]) (.agg h2 (h2.one hl))
    · cases h1
  unfold buildA at h
  split at h
  · rename_i fs hty
    rw [hty] at ht
    obtain ⟨⟨fields, hu, hfs, _⟩, _, _, _, hsz⟩ := ht
    split at h
    · rename_i zs ps hz hp
      cases hfill : fillC (fun i => (fieldAt fs i).map fun p => (p.2, E.size p.1)) zs ps with
      | none => simp [hfill] at h
      | some cs =>
        simp only [hfill, Option.bind_some] at h
        obtain ⟨inf, z, vs, h1, h2, h3, h4, _, h6⟩ := hE.zero t zs hz
        have hzc := zero_cells h3 h4
        have hpl : (fields.mapM fun f => (do pure (f.offset, ← sizeOf f.type) : Sem (Nat × Nat))).run P w = .ok (fields.map fun f => (f.offset, E.size f.type)) w := by
          rw [Array.mapM_eq_mapM_toList]
          have := mapM_list (P := P) (w := w) (f := fun f : Field => (do pure (f.offset, ← sizeOf f.type) : Sem (Nat × Nat))) (h := fun f => (f.offset, E.size f.type)) fields.toList (fun f hf => by
            obtain ⟨⟨i, hi1, hi2⟩, _⟩ := hsz (f.type, f.offset) (by rw [hfs]; exact List.mem_map.2 ⟨f, hf, rfl⟩)
            simp [run_sizeOf' hi1, hi2])
          rw [Sem.run_map, this]
          show Result.ok _ w = _
          congr 1
          apply Array.ext'
          simp
        obtain ⟨vs', h7, h8⟩ := fillC_ok (g := g) (pl' := fun i => (fields.map fun f => (f.offset, E.size f.type))[i]?) (fun i q hq => by
          unfold fieldAt at hq
          rw [hfs, List.getElem?_map] at hq
          cases hfl : fields.toList[i]? with
          | none => simp [hfl] at hq
          | some fl =>
            have hfl' : fields[i]? = some fl := by simpa using hfl
            simp only [hfl, Option.map_some, Option.some.injEq] at hq
            subst hq
            simp [hfl']) ps _ zs cs vs hfill (partsV_ok hf _ _ _ hp) (h6 g)
        refine fin h h8 ?_
        have hzz : (⟨vs⟩ : Array Value) = z.cells := by rw [← hzc]
        simp only [Instr.build, Sem.run_bind, zeroValue, typeInfo, run_program, Result.andThen_ok, h1, h2, Sem.run_pure, run_underlying hu, hpl, hparts]
        rw [← hzz, h7]
        rfl
    · cases h
  · rename_i n e hty
    rw [hty] at ht
    obtain ⟨hu, _, ⟨ie, hie, hse⟩⟩ := ht
    split at h
    · rename_i zs ps hz hp
      cases hfill : fillC (fun i => some (i * E.size e, E.size e)) zs ps with
      | none => simp [hfill] at h
      | some cs =>
        simp only [hfill, Option.bind_some] at h
        obtain ⟨inf, z, vs, h1, h2, h3, h4, _, h6⟩ := hE.zero t zs hz
        have hzc := zero_cells h3 h4
        obtain ⟨vs', h7, h8⟩ := fillC_ok (g := g) (pl' := fun i => some (i * ie.size, ie.size)) (fun i q hq => by rw [hse]; exact hq) ps _ zs cs vs hfill (partsV_ok hf _ _ _ hp) (h6 g)
        refine fin h h8 ?_
        have hzz : (⟨vs⟩ : Array Value) = z.cells := by rw [← hzc]
        simp only [Instr.build, Sem.run_bind, zeroValue, typeInfo, run_program, Result.andThen_ok, h1, h2, Sem.run_pure, run_underlying hu, run_sizeOf' hie, hparts]
        rw [← hzz, h7]
        rfl
    · cases h
  · cases h

theorem Elems.set (hE : EnvOk P E) {G : Nat → Nat → Option Value} {e : K} {xs : List (T e)} {cs us : List Value} {j : Nat} {z : T e} (h : Elems E G e xs cs) (hj : j < xs.length) (hz : Fcs E G (E.enc e z) us) :
    Elems E G e (xs.set j z) (AI.spliced cs (j * E.size (E.num e)) us) := by
  have hul : us.length = E.size (E.num e) := by rw [← hz.length, hE.encLen]
  have hmul : j * E.size (E.num e) + E.size (E.num e) ≤ xs.length * E.size (E.num e) := by
    have := Nat.mul_le_mul_right (E.size (E.num e)) (show j + 1 ≤ xs.length by omega)
    rwa [Nat.add_mul, Nat.one_mul] at this
  have hlen := h.len
  refine ⟨by rw [spliced_length (by omega), List.length_set]; exact hlen, fun m x hm => ?_⟩
  rw [List.getElem?_set] at hm
  split at hm
  · rename_i hjm
    subst hjm
    have hzx : z = x := by simpa [hj] using hm
    subst hzx
    have := spliced_in (c := cs) (us := us) (p := j * E.size (E.num e)) (off := 0) (n := E.size (E.num e)) (by omega) (by omega)
    rw [Nat.add_zero] at this
    rw [this]
    have hl2 : ((cs.drop (j * E.size (E.num e))).take (E.size (E.num e))).length = E.size (E.num e) := by simp; omega
    have : AI.spliced ((cs.drop (j * E.size (E.num e))).take (E.size (E.num e))) 0 us = us := by
      unfold AI.spliced
      rw [List.take_zero, List.nil_append, List.drop_eq_nil_of_le (by omega), List.append_nil]
    rw [this]
    exact hz
  · rename_i hjm
    have hml : m < xs.length := (List.getElem?_eq_some_iff.1 hm).1
    rw [spliced_out (by omega)]
    · exact h.el m x hm
    · rcases Nat.lt_or_gt_of_ne hjm with hlt | hgt
      · right
        have := Nat.mul_le_mul_right (E.size (E.num e)) (show j + 1 ≤ m by omega)
        rw [Nat.add_mul, Nat.one_mul] at this
        omega
      · left
        have := Nat.mul_le_mul_right (E.size (E.num e)) (show m + 1 ≤ j by omega)
        rw [Nat.add_mul, Nat.one_mul] at this
        omega
/-- Zero elements. -/
theorem Elems.zeros {G : Nat → Nat → Option Value} {e : K} {z : T e} {zs : List Value} (n : Nat) (hz : Fcs E G (E.enc e z) zs) (hl : zs.length = E.size (E.num e)) (h0 : 0 < E.size (E.num e)) :
    Elems E G e (List.replicate n z) ((List.range (n * E.size (E.num e))).map fun i => zs.getD (i % E.size (E.num e)) undef) := by
  refine ⟨by simp, fun j x hx => ?_⟩
  rw [List.getElem?_replicate] at hx
  split at hx
  · rename_i hj
    simp only [Option.some.injEq] at hx
    subst hx
    have hmul : j * E.size (E.num e) + E.size (E.num e) ≤ n * E.size (E.num e) := by
      have := Nat.mul_le_mul_right (E.size (E.num e)) (show j + 1 ≤ n by omega)
      rwa [Nat.add_mul, Nat.one_mul] at this
    have : (((List.range (n * E.size (E.num e))).map fun i => zs.getD (i % E.size (E.num e)) undef).drop (j * E.size (E.num e))).take (E.size (E.num e)) = zs := by
      apply List.ext_getElem?
      intro k
      rw [List.getElem?_take, List.getElem?_drop, List.getElem?_map]
      by_cases hk : k < E.size (E.num e)
      · rw [if_pos hk, List.getElem?_range (by omega)]
        simp only [Option.map_some]
        rw [Nat.mul_comm, Nat.mul_add_mod, Nat.mod_eq_of_lt hk]
        simp [List.getD, show k < zs.length by omega]
      · rw [if_neg hk, List.getElem?_eq_none (by omega)]
    rw [this]
    exact hz
  · cases hx

theorem setsT_ok (hE : EnvOk P E) {e : K} : ∀ (ps : List (Nat × V T)) (qs : List (Nat × Value)) (xs xs' : List (T e)) (cs : List Value), setsT E e xs ps = some xs' → Parts E g ps qs → Elems E g.G e xs cs →
    xs'.length = xs.length ∧ ∃ cs', Instr.fill (fun i => some (i * E.size (E.num e), E.size (E.num e))) ⟨cs⟩ qs = some ⟨cs'⟩ ∧ Elems E g.G e xs' cs' := by
  intro ps
  induction ps with
  | nil =>
    intro qs xs xs' cs h hp he
    cases hp
    simp only [setsT, Option.some.injEq] at h
    subst h
    exact ⟨rfl, cs, rfl, he⟩
  | cons p ps ih =>
    obtain ⟨i, v⟩ := p
    intro qs xs xs' cs h hp he
    cases hp with
    | @cons _ _ x _ qs hv hs =>
      simp only [setsT] at h
      split at h
      · rename_i y hlt hd
        have hlt' : i < xs.length := Nat.le_of_ble_eq_true hlt
        have hfc := hE.dec g e _ y _ hd hv.cells
        have hsz : x.cells.size = E.size (E.num e) := by rw [← Array.length_toList, ← hfc.length, hE.encLen]
        obtain ⟨h1, cs', h2, h3⟩ := ih qs _ xs' _ h hs (he.set hE hlt' hfc)
        refine ⟨by rw [h1, List.length_set], cs', ?_, h3⟩
        have hmul : i * E.size (E.num e) + E.size (E.num e) ≤ cs.length := by
          have := Nat.mul_le_mul_right (E.size (E.num e)) (show i + 1 ≤ xs.length by omega)
          rw [Nat.add_mul, Nat.one_mul, ← he.len] at this
          exact this
        rw [fill_cons rfl hsz hmul]
        exact h2
      · cases h

/-- A row of cells that is frozen as soon as it is made. -/
theorem newRow_ok (hE : EnvOk P E) (hi : Inv E g st w) {e : K} {xs : List (T e)} {cs : List Value} (h : Elems E g.G e xs cs) :
    ∃ g', To E g w g' st { w with heap := w.heap.push (.cells ⟨cs⟩ (E.num e)) } ∧ Fc E g'.G (.sl e xs .no) (.slice (some ⟨w.heap.size, 0, none⟩) xs.length xs.length) ∧ g'.M = g.M := by
  have hG : GLe g.G (plus g.G w.heap.size 0 cs) := plus_le fun o' _ _ => hi.glt' (Nat.le_refl _)
  have hold : ∀ b, b < w.heap.size → (w.heap.push (.cells ⟨cs⟩ (E.num e)))[b]? = w.heap[b]? := fun b hb => by rw [Array.getElem?_push, if_neg (by omega)]
  have hnew : (w.heap.push (.cells ⟨cs⟩ (E.num e)))[w.heap.size]? = some (.cells ⟨cs⟩ (E.num e)) := by simp
  have hstep := hi.grow (w' := { w with heap := w.heap.push (.cells ⟨cs⟩ (E.num e)) }) hG (fun b off v hv => by
    by_cases hb : b = w.heap.size
    · subst hb
      rw [cell?_cells hnew]
      by_cases ho : off < cs.length
      · unfold plus at hv
        rw [if_pos ⟨rfl, by omega, by omega⟩] at hv
        simpa using hv
      · rw [plus_out (by omega), hi.glt' (Nat.le_refl _)] at hv
        cases hv
    · rw [plus_other hb] at hv
      rw [cell?_block (w := w) (hold b (hi.glt hv))]
      exact hi.froz b off v hv) rfl rfl rfl (by simp) (fun b hb => ⟨hold b hb, fun off => plus_other (by omega)⟩)
  exact ⟨_, ⟨hstep.2.2, hstep.1, hstep.2.1⟩, (h.mono hG).fc (plus_fz _ _ _ _) (Nat.le_refl _), rfl⟩

theorem zeroT_ok (hE : EnvOk P E) (G : Nat → Nat → Option Value) {e : K} {z : T e} (h : zeroT E e = some z) : ∃ i x vs, P.info? (E.num e) = some i ∧ i.zero = some x ∧ i.size = E.size (E.num e) ∧ i.bytes = E.bytes e ∧ 0 < i.bytes ∧ 0 < i.size ∧
    x.cells = ⟨vs⟩ ∧ vs.length = E.size (E.num e) ∧ Fcs E G (E.enc e z) vs ∧ CellsOf E (E.num e) x vs := by
  unfold zeroT at h
  cases hz : zeroC E (E.num e) with
  | none => simp [hz] at h
  | some cs =>
    simp only [hz, Option.bind_some] at h
    obtain ⟨i, x, vs, h1, h2, h3, h4, h5, h6⟩ := hE.zero _ _ hz
    obtain ⟨i', x', h1', h2', h7, h8, h9, h10, h11⟩ := hE.elem e
    rw [h1] at h1'
    cases h1'
    have hc := zero_cells h3 h4
    have hfc := hE.dec ⟨G, []⟩ e _ _ _ h (h6 ⟨G, []⟩)
    exact ⟨i, x, vs, h1, h2, h7, h9, h10, h11, by rw [← hc], by rw [← hfc.length, hE.encLen], hfc, h3⟩
theorem buildSlice_ok (hE : EnvOk P E) {t len : Nat} {parts : Array (Nat × Operand)} (hi : Inv E g st w) (hf : FrOk E g fr a.tmps) {k : Ask T} (h : buildSliceA E fr o t len parts = some k) (hop : o.op = .buildSlice t len parts) :
    SoundAsk P E g st w ((execOp a.eval o).run P w) k := by
  have ht := hE.ty t
  have hparts : (parts.map fun p => (p.1, a.eval p.2)).toList = parts.toList.map fun p => (p.1, a.eval p.2) := by simp
  unfold buildSliceA at h
  split at h
  case h_2 => cases h
  rename_i e hty
  rw [hty] at ht
  split at h
  case h_2 => cases h
  rename_i z ps hz hp hb
  split at h
  case h_2 => cases h
  rename_i xs hs
  simp only [Option.some.injEq] at h
  subst h
  obtain ⟨inf, x, vs, h1, h2, h3, _, _, h4, h5, h6, h7, _⟩ := zeroT_ok hE g.G hz
  have hpos : 0 < E.size (E.num e) := by rw [← h3]; exact h4
  obtain ⟨hlen, cs', h8, h9⟩ := setsT_ok hE ps _ _ xs _ hs (partsV_ok hf _ _ _ hp) (Elems.zeros len h7 h6 hpos)
  rw [List.length_replicate] at hlen
  obtain ⟨g', h10, h11, h12⟩ := newRow_ok hE hi h9
  rw [hlen] at h11
  refine ⟨g', _, _, ?_, h10, .slfull h11⟩
  have hb' : ¬ (len * E.size (E.num e) > 2 ^ 24) := by have := Nat.le_of_ble_eq_true hb; omega
  have hzeros : (if len * E.size (E.num e) = 0 then (pure #[] : Sem (Array Value)) else do pure (← zeroValue (E.num e)).cells).run P w = .ok (if len * E.size (E.num e) = 0 then #[] else ⟨vs⟩) w := by
    split
    · rfl
    · simp [zeroValue, typeInfo, h1, h2, h5]
  have hcells : ((Array.range (len * E.size (E.num e))).map fun i => (if len * E.size (E.num e) = 0 then #[] else (⟨vs⟩ : Array Value))[i % (if len * E.size (E.num e) = 0 then #[] else (⟨vs⟩ : Array Value)).size]!) =
      ⟨(List.range (len * E.size (E.num e))).map fun i => vs.getD (i % E.size (E.num e)) undef⟩ := by
    by_cases hz0 : len * E.size (E.num e) = 0
    · rw [hz0]
      apply Array.ext'
      simp
    · simp only [hz0, if_false]
      apply Array.ext'
      rw [Array.toList_map, Array.toList_range]
      apply List.map_congr_left
      intro i _
      have hsz : (⟨vs⟩ : Array Value).size = E.size (E.num e) := h6
      rw [hsz]
      have hlt : i % E.size (E.num e) < vs.length := by rw [h6]; exact Nat.mod_lt _ hpos
      rw [getElem!_pos (⟨vs⟩ : Array Value) (i % E.size (E.num e)) hlt]
      simp [List.getD, hlt]
  have hrun : (Instr.buildSlice t len (parts.map fun p => (p.1, a.eval p.2))).run P w = .ok (.slice (some ⟨w.heap.size, 0, none⟩) len len) { w with heap := w.heap.push (.cells ⟨cs'⟩ (E.num e)) } := by
    by_cases hz0 : len * E.size (E.num e) = 0
    · simp only [hz0, if_true] at hcells
      simp only [Instr.buildSlice, Sem.run_bind, run_underlying ht.1, Result.andThen_ok, run_sizeOf' h1, h3, hb', if_false, hz0, if_true, Sem.run_pure, hparts]
      rw [hz0] at h8
      rw [if_neg (by decide)]
      simp only [Sem.run_bind, Sem.run_pure, Result.andThen_ok]
      have e0 : (Array.map (fun x => (#[] : Array Value)[x % (#[] : Array Value).size]!) (Array.range 0)) = ⟨[]⟩ := by
        apply Array.ext'
        simp
      rw [e0]
      rw [show ((List.range 0).map fun i => vs.getD (i % E.size (E.num e)) undef) = [] by simp] at h8
      rw [h8]
      rfl
    · simp only [hz0, if_false] at hcells
      simp only [Instr.buildSlice, Sem.run_bind, run_underlying ht.1, Result.andThen_ok, run_sizeOf' h1, h3, hb', if_false, hz0, zeroValue, typeInfo, run_program, h1, h2, Sem.run_pure, h5, hcells, hparts]
      rw [h8]
      rfl
  simp [execOp, hop, hrun]
end
end Go.Proofs.YtnenfgpjedddoaaGreat.AI

/- Each operation does what the abstract interpreter says: new maps and arrays, iterators over texts. -/
set_option linter.unusedVariables false
set_option linter.unusedSectionVars false
set_option linter.unusedSimpArgs false
namespace Go.Proofs.YtnenfgpjedddoaaGreat.AI
open Go

variable {K : Type} [DecidableEq K] {T : K → Type} {E : Env T} {P : Program}
section
variable {g : Gh} {st : List (Ob T)} {w : World} {fr : Fr T} {a : Act} (o : Oper)

theorem makeMap_ok (hE : EnvOk P E) {t : Nat} {rs : Option Operand} (hi : Inv E g st w) (hf : FrOk E g fr a.tmps) {k : Ask T} (h : makeMapA E fr o t rs = some k) (hop : o.op = .makeMap t rs) :
    SoundAsk P E g st w ((execOp a.eval o).run P w) k := by
  have ht := hE.ty t
  unfold makeMapA at h
  split at h
  case h_2 => cases h
  rename_i kt et hty
  rw [hty] at ht
  have fin : (Instr.makeMap t (rs.map a.eval)).run P w = .ok (.map (some w.heap.size)) { w with heap := w.heap.push (.map #[] 0) } → k = .new true (.map kt et []) (fun i => .map i) → SoundAsk P E g st w ((execOp a.eval o).run P w) k := fun hr hk => by
    subst hk
    intro _ p hp
    refine ⟨⟨g.G, g.M.set p (.map w.heap.size [])⟩, { w with heap := w.heap.push (.map #[] 0) }, _, by simp [execOp, hop, hr], ?_, .map (hi.fresh_at hp _)⟩
    refine hi.fresh (w' := { w with heap := w.heap.push (.map #[] 0) }) (ob := .map #[] 0) (l' := .map w.heap.size []) (G' := g.G) hp rfl rfl rfl rfl (.refl _) (fun _ _ _ => rfl)
      (fun b off v hb hv => by rw [hi.glt' hb] at hv; cases hv) (fun b hb => by simp only [Loc.block, Option.some.injEq] at hb; exact hb.symm) ?_
    refine ⟨#[], 0, ?_, .nil, fun p hp => (by cases hp), .nil, .nil⟩
    simp
  split at h
  · simp only [Option.some.injEq] at h
    exact fin (by simp [Instr.makeMap]) h.symm
  · rename_i x
    split at h
    · rename_i k1 n hx
      simp only [Option.some.injEq] at h
      refine fin ?_ h.symm
      have := (evalO_ok hf hx).int_inv
      simp [Instr.makeMap, run_underlying ht.1, this, asInt, asIntOf]
    · cases h

theorem range_ok (hE : EnvOk P E) {t : Nat} {x : Operand} (hi : Inv E g st w) (hf : FrOk E g fr a.tmps) {k : Ask T} (h : rangeA E fr o t x = some k) (hop : o.op = .range t x) :
    SoundAsk P E g st w ((execOp a.eval o).run P w) k := by
  have ht := hE.ty t
  unfold rangeA at h
  split at h
  case h_2 => cases h
  rename_i s hty hx
  rw [hty] at ht
  simp only [Option.some.injEq] at h
  subst h
  intro _ p hp
  have hs := (evalO_ok hf hx).str_inv
  have hr : (Instr.range t (a.eval x)).run P w = .ok (.pointer (some ⟨w.heap.size, 0, none⟩)) { w with heap := w.heap.push (.stringIter ⟨⟨s⟩⟩ 0) } := by
    rw [hs]
    simp [Instr.range, run_underlying ht.1]
  refine ⟨⟨g.G, g.M.set p (.iter w.heap.size)⟩, _, _, by simp [execOp, hop, hr]; rfl, ?_, .itr (hi.fresh_at hp _)⟩
  refine hi.fresh (w' := { w with heap := w.heap.push (.stringIter ⟨⟨s⟩⟩ 0) }) (ob := .stringIter ⟨⟨s⟩⟩ 0) (l' := .iter w.heap.size) (G' := g.G) hp rfl rfl rfl rfl (.refl _) (fun _ _ _ => rfl)
    (fun b off v hb hv => by rw [hi.glt' hb] at hv; cases hv) (fun b hb => by simp only [Loc.block, Option.some.injEq] at hb; exact hb.symm) ?_
  show (w.heap.push (.stringIter ⟨⟨s⟩⟩ 0))[w.heap.size]? = _
  simp

theorem roomFor_spec {e : K} {m : Int} (h : roomFor E e m = true) : 0 ≤ m ∧ m * (E.bytes e : Int) ≤ 140737488355328 ∧ m ≤ 9223372036854775807 := by
  simpa [roomFor, and_assoc] using h
theorem madeCells_eq {vs : List Value} {sz n : Nat} (hv : vs.length = sz) (h0 : 0 < sz) : madeCells ⟨vs⟩ (n * sz) = ⟨(List.range (n * sz)).map fun i => vs.getD (i % sz) undef⟩ := by
  unfold madeCells
  apply Array.ext'
  rw [Array.toList_map, Array.toList_range]
  apply List.map_congr_left
  intro i _
  have hsz : (⟨vs⟩ : Array Value).size = sz := hv
  rw [hsz]
  have hlt : i % sz < vs.length := by rw [hv]; exact Nat.mod_lt _ h0
  rw [getElem!_pos (⟨vs⟩ : Array Value) (i % sz) hlt]
  simp [List.getD, hlt]

theorem makeSlice_ok (hE : EnvOk P E) {t : Nat} {lo co : Operand} (hi : Inv E g st w) (hf : FrOk E g fr a.tmps) {k : Ask T} (h : makeSliceA E fr o t lo co = some k) (hop : o.op = .makeSlice t lo co) :
    SoundAsk P E g st w ((execOp a.eval o).run P w) k := by
  have ht := hE.ty t
  unfold makeSliceA at h
  split at h
  case h_2 => cases h
  rename_i e k1 n k2 m hty hl hc
  rw [hty] at ht
  have hln := (evalO_ok hf hl).int_inv
  have hcm := (evalO_ok hf hc).int_inv
  obtain ⟨inf, zv, h1, h2, h3, h4, h5, h6, h7⟩ := hE.elem e
  have run : 0 ≤ n → n ≤ m → roomFor E e m = true → (execOp a.eval o).run P w = .ok (.value (.slice (some ⟨w.heap.size, 0, none⟩) n.toNat m.toNat)) (w.alloc (.cells (madeCells zv.cells (m.toNat * inf.size)) (E.num e))) := fun hn hnm hr => by
    obtain ⟨r1, r2, r3⟩ := roomFor_spec hr
    have hb : (inf.bytes : Int) * m ≤ 281474976710656 := by rw [h5, Int.mul_comm]; omega
    have := run_make (P := P) w t (E.num e) inf zv ht.1 h1 h2 k1 k2 n m hn hnm hb r3
    simp [execOp, hop, hln, hcm, this]
  split at h
  · rename_i hz
    simp only [Option.some.injEq] at h
    subst h
    intro hb p hp
    obtain ⟨r1, r2, r3⟩ := roomFor_spec hb
    have hn0 : n = 0 := by
      unfold isZero at hz
      split at hz
      · simp only [evalO, constV, Option.some.injEq, V.int.injEq] at hl
        exact hl.2.symm
      · cases hz
    subst hn0
    have hrun := run (Int.le_refl _) r1 hb
    obtain ⟨g', h8, h9⟩ := grown_ok (xs := ([] : List (T e))) (cells := []) (rest := (madeCells zv.cells (m.toNat * inf.size)).toList) (nc := m.toNat) (ver := 0) (w' := w.alloc (.cells (madeCells zv.cells (m.toNat * inf.size)) (E.num e)))
      hE hi hp (hi.dead_loc hp) (fun _ _ _ => trivial) (Elems.nil _ e) (Nat.zero_le _) rfl (by
        rw [List.nil_append, Array.length_toList, size_madeCells, h3]) rfl rfl rfl
    exact ⟨g', _, _, hrun, h8, h9⟩
  · split at h
    · rename_i z hz
      simp only [Option.some.injEq] at h
      subst h
      intro hb p hp
      simp only [Bool.and_eq_true, decide_eq_true_eq] at hb
      obtain ⟨rfl, hb⟩ := hb
      obtain ⟨r1, r2, r3⟩ := roomFor_spec hb
      have hrun := run r1 (Int.le_refl _) hb
      obtain ⟨i', x', vs, q1, q2, _, _, _, _, q3, q4, q5, _⟩ := zeroT_ok hE g.G hz
      rw [h1] at q1
      cases q1
      rw [h2] at q2
      cases q2
      have hpos : 0 < E.size (E.num e) := by rw [← h3]; exact h7
      have hel := Elems.zeros n.toNat q5 q4 hpos
      have hcells : madeCells zv.cells (n.toNat * inf.size) = ⟨(List.range (n.toNat * E.size (E.num e))).map fun i => vs.getD (i % E.size (E.num e)) undef⟩ := by
        rw [q3, h3]
        exact madeCells_eq q4 hpos
      rw [hcells] at hrun
      refine ⟨⟨g.G, g.M.set p (.arr w.heap.size n.toNat (E.size (E.num e)))⟩, _, _, hrun, ?_, .asl (hi.fresh_at hp _)⟩
      refine hi.fresh (w' := w.alloc (.cells ⟨(List.range (n.toNat * E.size (E.num e))).map fun i => vs.getD (i % E.size (E.num e)) undef⟩ (E.num e))) (ob := .cells ⟨(List.range (n.toNat * E.size (E.num e))).map fun i => vs.getD (i % E.size (E.num e)) undef⟩ (E.num e)) (l' := .arr w.heap.size n.toNat (E.size (E.num e))) (G' := g.G) hp rfl rfl rfl rfl (.refl _) (fun _ _ _ => rfl)
        (fun b off v hb hv => by rw [hi.glt' hb] at hv; cases hv) (fun b hb => by simp only [Loc.block, Option.some.injEq] at hb; exact hb.symm) ?_
      refine ⟨by simp, rfl, fun off => hi.glt' (Nat.le_refl _), _, ?_, ?_, hel.el⟩
      · show (w.heap.push _)[w.heap.size]? = _
        simp
      · rw [hel.len, List.length_replicate]
    · cases h

theorem run_getObj {r : Nat} {ob : Obj} (h : w.heap[r]? = some ob) (hc : ∀ c t f, ob ≠ .cells c t f) : (getObj r).run P w = .ok ob w := by
  cases ob <;> first
    | (simp [getObj, Sem.run, h]; done)
    | exact absurd rfl (hc _ _ _)
theorem run_setObj {r : Nat} {ob ob' : Obj} (h : w.heap[r]? = some ob) (hc : ∀ c t f, ob ≠ .cells c t f) : (setObj r ob').run P w = .ok () { w with heap := w.heap.setIfInBounds r ob' } := by
  cases ob <;> first
    | (simp [setObj, Sem.run, h]; done)
    | exact absurd rfl (hc _ _ _)
theorem next_ok {x : Operand} (hi : Inv E g st w) (hf : FrOk E g fr a.tmps) {k : Ask T} (h : nextA fr o x = some k) (hop : o.op = .next x true) :
    SoundAsk P E g st w ((execOp a.eval o).run P w) k := by
  unfold nextA at h
  split at h
  case h_2 => cases h
  rename_i i hx
  simp only [Option.some.injEq] at h
  subst h
  intro ob ob' v hob hk
  have hv := evalO_ok hf hx
  obtain ⟨r, hM, hxv⟩ : ∃ r, g.M[i]? = some (.iter r) ∧ a.eval x = .pointer (some ⟨r, 0, none⟩) := by
    generalize a.eval x = q at hv
    cases hv with
    | fc h => cases h
    | itr h => exact ⟨_, h, rfl⟩
  have hok := hi.obs i _ _ hob hM
  unfold nextK at hk
  split at hk
  case h_2 => cases hk
  rename_i s pos
  have hheap : w.heap[r]? = some (.stringIter ⟨⟨s⟩⟩ pos) := hok
  have hg := run_getObj (P := P) hheap (by simp)
  have hsz : (⟨⟨s⟩⟩ : ByteArray).size = s.length := rfl
  split at hk
  · rename_i hb
    simp only [Option.some.injEq, Prod.mk.injEq, true_and] at hk
    obtain ⟨rfl, rfl⟩ := hk
    have hlt : pos < s.length := Nat.le_of_ble_eq_true hb
    have hs := run_setObj (P := P) (ob' := .stringIter ⟨⟨s⟩⟩ (pos + (Utf8.decode ⟨⟨s⟩⟩ pos).2)) hheap (by simp)
    have hrun : (Instr.next (a.eval x) true o.type).run P w = .ok (.tuple #[.bool true, goInt pos, .int .i32 (Utf8.decode ⟨⟨s⟩⟩ pos).1]) { w with heap := w.heap.setIfInBounds r (.stringIter ⟨⟨s⟩⟩ (pos + (Utf8.decode ⟨⟨s⟩⟩ pos).2)) } := by
      rw [hxv]
      simp [Instr.next, hg, hsz, hlt, hs]
    have hr : r < w.heap.size := heap_lt hheap
    have hto := hi.write (w' := { w with heap := w.heap.setIfInBounds r (.stringIter ⟨⟨s⟩⟩ (pos + (Utf8.decode ⟨⟨s⟩⟩ pos).2)) }) (ob' := .iter s (pos + (Utf8.decode ⟨⟨s⟩⟩ pos).2)) hob hM
      (by show (w.heap.setIfInBounds r _)[r]? = _; simp [hr]) (fun b hb => by
        show (w.heap.setIfInBounds r _)[b]? = _
        rw [Array.getElem?_setIfInBounds_ne (fun e => hb (by rw [e]; rfl))])
      (fun b off v hv hbl => by
        simp only [Loc.block, Option.some.injEq] at hbl
        subst hbl
        have := hi.froz _ _ _ hv
        simp [World.cell?, hheap] at this) rfl rfl rfl (by simp)
    exact ⟨_, _, _, by simp [execOp, hop, hrun]; rfl, hto, .tup (.cons (.bool _ _) (.cons (.int _ _ _) (.cons (.int _ _ _) .nil)))⟩
  · rename_i hb
    simp only [Option.some.injEq, Prod.mk.injEq, true_and] at hk
    obtain ⟨rfl, rfl⟩ := hk
    have hge : ¬ pos < s.length := fun hlt => by
      have : Nat.ble (pos + 1) s.length = true := Nat.ble_eq_true_of_le hlt
      rw [hb] at this; cases this
    have hrun : (Instr.next (a.eval x) true o.type).run P w = .ok (.tuple #[.bool false]) w := by
      rw [hxv]
      simp [Instr.next, hg, hsz, hge]
    rw [set_same hob]
    exact .here hi (by simp [execOp, hop, hrun]) (.tup (.cons (.bool _ _) .nil))
end
end Go.Proofs.YtnenfgpjedddoaaGreat.AI

/- Each operation does what the abstract interpreter says: maps. -/
set_option linter.unusedVariables false
set_option linter.unusedSectionVars false
set_option linter.unusedSimpArgs false
namespace Go.Proofs.YtnenfgpjedddoaaGreat.AI
open Go

variable {K : Type} [DecidableEq K] {T : K → Type} {E : Env T} {P : Program}
section
variable {g : Gh} {st : List (Ob T)} {w : World} {fr : Fr T} {a : Act} (o : Oper)

/-- A key's cell. -/
theorem leaf_same {t : Nat} (ht : TyOk P E t (E.ty t)) (hk : (E.ty t).keyed = true) {a b : V T} {p q : Value} {G : Nat → Nat → Option Value} (hp : Fc E G a p) (hq : Fc E G b q) {r : Bool} (h : eqLeaf (E.ty t) a b = some r) :
    (r = true ↔ p = q) ∧ (∀ n, Instr.sameBits n p p = true) ∧ ∀ d, P.underlying t = some d → Instr.sameNow d p q = some r := by
  unfold eqLeaf at h
  cases hty : E.ty t <;> rw [hty] at ht hk h <;> first
    | (cases hk; done)
    | skip
  · dsimp only at h
    split at h
    · split at h
      · rename_i hkk
        have := eq_of_beq hkk
        subst this
        simp only [Option.some.injEq] at h
        subst h
        cases hp; cases hq
        refine ⟨by simp, fun n => by cases n <;> simp [Instr.sameBits], fun d hd => ?_⟩
        rw [ht.1] at hd
        cases hd
        simp [Instr.sameNow]
      · cases h
    · cases h
  · dsimp only at h
    split at h
    · simp only [Option.some.injEq] at h
      subst h
      cases hp; cases hq
      refine ⟨by simp, fun n => by cases n <;> simp [Instr.sameBits], fun d hd => ?_⟩
      rw [ht.1] at hd
      cases hd
      simp [Instr.sameNow]
    · cases h
  · dsimp only at h
    split at h
    · rename_i s s'
      simp only [Option.some.injEq] at h
      subst h
      cases hp; cases hq
      refine ⟨?_, fun n => by cases n <;> (simp [Instr.sameBits]; rw [byteArray_beq]; simp), fun d hd => ?_⟩
      · rw [beq_iff_eq]
        exact ⟨fun h => by rw [h], fun h => by simpa using h⟩
      · rw [ht.1] at hd
        cases hd
        simp only [Instr.sameNow]; rw [byteArray_beq]
    · cases h
theorem keyed_size {t : Nat} (ht : TyOk P E t (E.ty t)) (hk : (E.ty t).keyed = true) : E.size t = 1 := by
  cases hty : E.ty t <;> rw [hty] at ht hk <;> first
    | (cases hk; done)
    | simp [Env.size, ht.2.2]
theorem eqT_leaf {d t : Nat} {xs ys : List (V T)} {r : Bool} (hk : (E.ty t).keyed = true) (h : eqT E d t xs ys = some r) : ∃ x y, xs = [x] ∧ ys = [y] ∧ eqLeaf (E.ty t) x y = some r := by
  cases d with
  | zero => simp [eqT] at h
  | succ d =>
    unfold eqT at h
    cases hty : E.ty t <;> rw [hty] at h hk <;> first
      | (cases hk; done)
      | (dsimp only at h
         split at h
         · exact ⟨_, _, rfl, rfl, h⟩
         · cases h)
/-- A row of keys' cells. -/
theorem flat_same (hE : EnvOk P E) {G : Nat → Nat → Option Value} {n d : Nat} : ∀ (fs : List (Nat × Nat)) (o : Nat) {xs ys : List (V T)} {vs us : List Value} {r : Bool}, flat E fs o n = true → Fcs E G xs vs → Fcs E G ys us → vs.length = n → us.length = n → eqF E d fs xs ys = some r →
    (r = true ↔ vs.drop o = us.drop o) ∧ ∀ v ∈ vs.drop o, ∀ m, Instr.sameBits m v v = true
  | [], o, xs, ys, vs, us, r, hf, hx, hy, hn, hm, h => by
    have ho := Nat.eq_of_beq_eq_true hf
    simp only [eqF, Option.some.injEq] at h
    subst h
    rw [List.drop_eq_nil_of_le (by omega), List.drop_eq_nil_of_le (by omega)]
    exact ⟨by simp, fun v hv => by cases hv⟩
  | (u, p) :: fs, o, xs, ys, vs, us, r, hf, hx, hy, hn, hm, h => by
    simp only [flat, Bool.and_eq_true] at hf
    obtain ⟨h1, h2, h3⟩ := hf
    have hpo := Nat.eq_of_beq_eq_true h1
    subst hpo
    cases d with
    | zero => simp [eqF] at h
    | succ d =>
      simp only [eqF] at h
      split at h
      case h_2 => cases h
      rename_i hlen
      simp only [Bool.and_eq_true] at hlen
      have hs := keyed_size (hE.ty u) h2
      have hl1 := Nat.le_of_ble_eq_true hlen.1
      have hl2 := Nat.le_of_ble_eq_true hlen.2
      rw [hs] at hl1 hl2
      split at h
      case h_2 => cases h
      rename_i a b ha hb
      simp only [Option.some.injEq] at h
      subst h
      obtain ⟨x, y, e1, e2, e3⟩ := eqT_leaf h2 ha
      rw [hs] at e1 e2
      have hxl := hx.length
      have hyl := hy.length
      have hv : p < vs.length := by omega
      have hu : p < us.length := by omega
      have hx1 : Fc E G x vs[p] := by
        have := (hx.drop p).take 1
        rw [e1, List.drop_eq_getElem_cons hv, List.take_succ_cons, List.take_zero] at this
        cases this with
        | cons h _ => exact h
      have hy1 : Fc E G y us[p] := by
        have := (hy.drop p).take 1
        rw [e2, List.drop_eq_getElem_cons hu, List.take_succ_cons, List.take_zero] at this
        cases this with
        | cons h _ => exact h
      obtain ⟨k1, k2, _⟩ := leaf_same (hE.ty u) h2 hx1 hy1 e3
      obtain ⟨k3, k4⟩ := flat_same hE fs (p + 1) h3 hx hy hn hm hb
      rw [List.drop_eq_getElem_cons hv, List.drop_eq_getElem_cons hu]
      refine ⟨?_, fun v hvm m => ?_⟩
      · rw [Bool.and_eq_true, k1, k3, List.cons.injEq]
      · rcases List.mem_cons.1 hvm with rfl | hvm
        · exact k2 m
        · exact k4 v hvm m
theorem run_checkFields (hE : EnvOk P E) {vs : List Value} {n : Nat} (hvs : vs.length = n) (b : Bool) (m : Nat) (hc : ∀ t p, (E.ty t).keyed = true → (Instr.checkKey b m t p).run P w = .ok () w) : ∀ (fs : List Field) (o : Nat), flat E (fs.map fun f => (f.type, f.offset)) o n = true →
    (forIn fs PUnit.unit (fun f _ =>
      if f.name ≠ "_" then do
        let x ← part f.type ⟨vs⟩ f.offset
        Instr.checkKey b m f.type x
        pure (ForInStep.yield PUnit.unit)
      else pure (ForInStep.yield PUnit.unit) : Field → PUnit → Sem (ForInStep PUnit))).run P w = .ok PUnit.unit w
  | [], o, _ => by simp
  | f :: fs, o, h => by
    simp only [List.map_cons, flat, Bool.and_eq_true] at h
    obtain ⟨h1, h2, h3⟩ := h
    have hpo := Nat.eq_of_beq_eq_true h1
    have hs := keyed_size (hE.ty f.type) h2
    have hlt : o < n := by
      have : ∀ (fs : List (Nat × Nat)) (o : Nat), flat E fs o n = true → o ≤ n := by
        intro fs
        induction fs with
        | nil => intro o h; exact Nat.le_of_eq (Nat.eq_of_beq_eq_true h)
        | cons q fs ih =>
          intro o h
          obtain ⟨u, p⟩ := q
          simp only [flat, Bool.and_eq_true] at h
          have := ih _ h.2.2
          omega
      have := this _ _ h3
      omega
    have hkn : (E.ty f.type).known = true := by
      cases hty : E.ty f.type <;> rw [hty] at h2 <;> first | rfl | cases h2
    obtain ⟨p, hp, _⟩ := part_ok (P := P) (w := w) hE (vs := vs) (u := f.type) (o := f.offset) hkn (by omega)
    have ih := run_checkFields hE hvs b m hc fs (o + 1) h3
    rw [List.forIn_cons]
    by_cases hn : f.name = "_"
    · simp only [hn, ne_eq, not_true_eq_false, if_false, Sem.run_bind, Sem.run_pure, Result.andThen_ok]
      simpa using ih
    · simp only [hn, ne_eq, not_false_eq_true, if_true, Sem.run_bind, hp, hc _ _ h2, Sem.run_pure, Result.andThen_ok]
      simpa using ih
theorem run_checkKey' {t : Nat} {p : Value} (b : Bool) (ht : TyOk P E t (E.ty t)) (hk : (E.ty t).keyed = true) (n : Nat) : (Instr.checkKey b (n + 1) t p).run P w = .ok () w := by
  cases hty : E.ty t <;> rw [hty] at ht hk <;> first
    | (cases hk; done)
    | (simp only [Instr.checkKey, Sem.run_bind, run_underlying ht.1, Result.andThen_ok]
       cases p <;> rfl)
theorem run_checkStruct (hE : EnvOk P E) {t : Nat} {vs : List Value} {fs : List (Nat × Nat)} (hty : E.ty t = .struct fs) (b : Bool) (m : Nat) (hk : flat E fs 0 (E.size t) = true) (hn : vs.length = E.size t) : (Instr.checkKey b (m + 2) t (.agg ⟨vs⟩)).run P w = .ok () w := by
  have ht := hE.ty t
  rw [hty] at ht
  obtain ⟨⟨fields, hu, hfs, hnm⟩, _⟩ := ht
  rw [hfs] at hk
  have := run_checkFields (w := w) hE hn b (m + 1) (fun t p h => run_checkKey' b (hE.ty t) h m) fields.toList 0 hk
  rw [Instr.checkKey]
  simp only [Sem.run_bind, run_underlying hu, Result.andThen_ok]
  rw [← Array.forIn_toList, this]
  rfl
theorem run_checkKey (hE : EnvOk P E) {t : Nat} {p : Value} {vs : List Value} (b : Bool) (hk : keyedT E t = true) (hc : CellsOf E t p vs) (hn : vs.length = E.size t) : (Instr.checkKey b 10000 t p).run P w = .ok () w := by
  have ht := hE.ty t
  unfold keyedT at hk
  split at hk
  · rename_i fs hty
    simp only [CellsOf, hty, Ty.agg] at hc
    subst hc
    exact run_checkStruct hE hty b 9998 hk hn
  · exact run_checkKey' b ht hk 9999
theorem keyed_desc (hE : EnvOk P E) {e : K} (hk : keyedT E (E.num e) = true) : ∃ d, P.underlying (E.num e) = some d := by
  have ht := hE.ty (E.num e)
  unfold keyedT at hk
  split at hk
  · rename_i fs hty
    rw [hty] at ht
    obtain ⟨⟨fields, hu, _⟩, _⟩ := ht
    exact ⟨_, hu⟩
  · cases hty : E.ty (E.num e) <;> rw [hty] at ht hk <;> first | (cases hk; done) | exact ⟨_, ht.1⟩
/-- Two keys. -/
theorem key_same (hE : EnvOk P E) {e : K} (hk : keyedT E (E.num e) = true) {d : TypeDesc} (hu : P.underlying (E.num e) = some d) {x y : T e} {p q : Value} {pcs qcs : List Value} {G : Nat → Nat → Option Value}
    (hp : Fcs E G (E.enc e x) pcs) (hp' : CellsOf E (E.num e) p pcs) (hq : Fcs E G (E.enc e y) qcs) (hq' : CellsOf E (E.num e) q qcs) :
    (Instr.sameNow d p q = some (E.eqb e x y) ∨ Instr.sameNow d p q = none) ∧ (∀ w, (Op.equal (E.num e) p q).run P w = .ok (E.eqb e x y) w) ∧ (E.eqb e x y = true ↔ p = q) ∧ Instr.sameBits 10000 p p = true := by
  have h3 := hE.key e hk x y
  have heq : ∀ w, (Op.equal (E.num e) p q).run P w = .ok (E.eqb e x y) w := fun w => by
    have := (eq_ok (P := P) (w := w) (g := ⟨G, []⟩) hE 100).1 (E.num e) _ _ _ _ _ p q 10000 h3 (Fcs.reps hp) (Fcs.reps hq) hp' hq' (by omega)
    simpa [Op.equal, Op.maxDepth] using this
  have ht := hE.ty (E.num e)
  unfold keyedT at hk
  split at hk
  · rename_i fs hty
    rw [hty] at ht
    simp only [CellsOf, hty, Ty.agg] at hp' hq'
    subst hp'; subst hq'
    obtain ⟨⟨fields, hu', hfs, hnm⟩, _⟩ := ht
    rw [hu] at hu'
    cases hu'
    have hpl : pcs.length = E.size (E.num e) := by rw [← hp.length, hE.encLen]
    have hql : qcs.length = E.size (E.num e) := by rw [← hq.length, hE.encLen]
    have hF : eqF E 99 fs (E.enc e x) (E.enc e y) = some (E.eqb e x y) := by
      unfold eqT at h3
      rw [hty] at h3
      exact h3
    obtain ⟨k1, k2⟩ := flat_same hE fs 0 hk hp hq hpl hql hF
    refine ⟨.inr rfl, heq, ?_, ?_⟩
    · rw [k1]; simp
    · simp only [Instr.sameBits, beq_self_eq_true, Bool.true_and, List.all_eq_true]
      intro ab hab
      obtain ⟨a, b⟩ := ab
      have hz : ∀ (l : List Value), (a, b) ∈ l.zip l → a = b ∧ a ∈ l := by
        intro l
        induction l with
        | nil => intro h; cases h
        | cons c l ih =>
          intro h
          rw [List.zip_cons_cons] at h
          rcases List.mem_cons.1 h with h | h
          · cases h; exact ⟨rfl, List.mem_cons_self ..⟩
          · exact ⟨(ih h).1, List.mem_cons_of_mem _ (ih h).2⟩
      obtain ⟨rfl, hm⟩ := hz _ hab
      exact k2 a (by simpa using hm) 9999
  · rename_i hnst
    obtain ⟨a, b, e1, e2, e3⟩ := eqT_leaf hk h3
    rw [e1] at hp
    rw [e2] at hq
    have hag : (E.ty (E.num e)).agg = false := by cases hty : E.ty (E.num e) <;> rw [hty] at hk <;> first | rfl | cases hk
    simp only [CellsOf, hag] at hp' hq'
    subst hp'; subst hq'
    have hp1 : Fc E G a p := by cases hp with | cons h _ => exact h
    have hq1 : Fc E G b q := by cases hq with | cons h _ => exact h
    obtain ⟨k1, k2, k3⟩ := leaf_same ht hk hp1 hq1 e3
    exact ⟨.inl (k3 d hu), heq, k1, k2 10000⟩
/-- The search for a key. -/
def Finds (P : Program) (kt : Nat) (d : TypeDesc) (p : Value) (es : List MapEntry) (i : Nat) (r : Option (Nat × Value)) : Prop :=
  (Instr.findNow d p es i = some r ∨ Instr.findNow d p es i = none) ∧ ∀ w, (Instr.findAsking kt p es i).run P w = .ok r w
theorem Finds.run {kt : Nat} {d : TypeDesc} {p : Value} {es : List MapEntry} {r : Option (Nat × Value)} (h : Finds P kt d p es 0 r) (hd : P.underlying kt = some d) : (Instr.findKey kt p es).run P w = .ok r w := by
  unfold Instr.findKey
  simp only [Sem.run_bind, run_underlying hd, Result.andThen_ok]
  rcases h.1 with h1 | h1
  · rw [h1]; rfl
  · rw [h1]; exact h.2 w

theorem Ents.keys {kt et : K} : ∀ {ps : List (T kt × T et)} {es : List MapEntry} {bs : List (Value × Nat)}, Ents E g kt et ps es bs → bs = es.map fun e => (e.key, e.born)
  | _, _, _, .nil => rfl
  | _, _, _, .cons _ _ _ _ h => by rw [List.map_cons, ← Ents.keys h]
theorem Ents.find (hE : EnvOk P E) {kt et : K} (hk : keyedT E (E.num kt) = true) {d : TypeDesc} (hu : P.underlying (E.num kt) = some d) {key : T kt} {p : Value} {pcs : List Value} (hp : Fcs E g.G (E.enc kt key) pcs) (hp' : CellsOf E (E.num kt) p pcs) :
    ∀ {ps : List (T kt × T et)} {es : List MapEntry} {bs : List (Value × Nat)}, Ents E g kt et ps es bs → ∀ i,
      (Finds P (E.num kt) d p es i none ∧ lookupT kt et E ps key = none ∧ (∀ v, updT kt et E ps key v = ps ++ [(key, v)]) ∧ p ∉ bs.map (·.1)) ∨
      (∃ j e v vcs, es[j]? = some e ∧ e.key = p ∧ Finds P (E.num kt) d p es i (some (i + j, e.val)) ∧ lookupT kt et E ps key = some v ∧ Fcs E g.G (E.enc et v) vcs ∧ CellsOf E (E.num et) e.val vcs ∧
        ∀ v' x xcs (f : MapEntry → MapEntry), Fcs E g.G (E.enc et v') xcs → CellsOf E (E.num et) x xcs → (f e).key = p → (f e).val = x → (f e).born = e.born → Ents E g kt et (updT kt et E ps key v') (es.modify j f) bs)
  | _, _, _, .nil, i => .inl ⟨⟨.inl rfl, fun w => rfl⟩, rfl, fun _ => rfl, by simp⟩
  | _, _, _, .cons (p := q) (ps := ps) (e := e) (es := es) (bs := bs) hkc hkc' hvc hvc' h, i => by
    obtain ⟨h1, hE1, h2, h3⟩ := key_same hE hk hu hp hp' hkc hkc'
    cases hb : E.eqb kt key q.1 with
    | true =>
      right
      rw [hb] at h1 hE1
      have hpe := h2.1 hb
      refine ⟨0, e, q.2, _, rfl, hpe.symm, ⟨?_, fun w => by simp [Instr.findAsking, hE1]⟩, by simp [lookupT, hb], hvc, hvc', fun v' x xcs f hx hx' f1 f2 f3 => ?_⟩
      · rcases h1 with h1 | h1
        · left; simp [Instr.findNow, h1]
        · right; simp [Instr.findNow, h1]
      have : updT kt et E (q :: ps) key v' = (key, v') :: ps := by simp [updT, hb]
      rw [this]
      rw [List.modify_zero_cons, show ((e.key, e.born) :: bs) = (((f e).key, (f e).born) :: bs) by rw [f1, f3, hpe]]
      exact .cons (kcs := pcs) (vcs := xcs) hp (by rw [f1]; exact hp') hx (by rw [f2]; exact hx') h
    | false =>
      rw [hb] at h1 hE1
      have hpe : p ≠ e.key := fun he => by rw [h2.2 he] at hb; cases hb
      have up : ∀ {r}, Finds P (E.num kt) d p es (i + 1) r → Finds P (E.num kt) d p (e :: es) i r := fun {r} hr => by
        refine ⟨?_, fun w => by simp [Instr.findAsking, hE1, hr.2 w]⟩
        rcases h1 with h1 | h1
        · rcases hr.1 with hr | hr
          · left; simp [Instr.findNow, h1, hr]
          · right; simp [Instr.findNow, h1, hr]
        · right; simp [Instr.findNow, h1]
      rcases Ents.find hE hk hu hp hp' h (i + 1) with ⟨a1, a2, a3, a4⟩ | ⟨j, e', v, vcs, a1, a2, a3, a4, a5, a6, a7⟩
      · left
        refine ⟨up a1, by simp [lookupT, hb, a2], fun v => by simp [updT, hb, a3], ?_⟩
        simp only [List.map_cons, List.mem_cons, not_or]
        exact ⟨hpe, a4⟩
      · right
        refine ⟨j + 1, e', v, vcs, by simpa using a1, a2, by rw [show i + (j + 1) = i + 1 + j by omega]; exact up a3, by simp [lookupT, hb, a4], a5, a6, fun v' x xcs f hx hx' f1 f2 f3 => ?_⟩
        have : updT kt et E (q :: ps) key v' = q :: updT kt et E ps key v' := by simp [updT, hb]
        rw [this, List.modify_succ_cons]
        exact .cons hkc hkc' hvc hvc' (a7 v' x xcs f hx hx' f1 f2 f3)
theorem Ents.snoc {kt et : K} {key : T kt} {v : T et} {e : MapEntry} {kcs vcs : List Value} (h1 : Fcs E g.G (E.enc kt key) kcs) (h2 : CellsOf E (E.num kt) e.key kcs) (h3 : Fcs E g.G (E.enc et v) vcs) (h4 : CellsOf E (E.num et) e.val vcs) :
    ∀ {ps : List (T kt × T et)} {es : List MapEntry} {bs : List (Value × Nat)}, Ents E g kt et ps es bs → Ents E g kt et (ps ++ [(key, v)]) (es ++ [e]) (bs ++ [(e.key, e.born)])
  | _, _, _, .nil => .cons h1 h2 h3 h4 .nil
  | _, _, _, .cons a b c d h => .cons a b c d (Ents.snoc h1 h2 h3 h4 h)

theorem ofCells_ok {t : Nat} {cs : List (V T)} {v : V T} {vs : List Value} {x : Value} (h : ofCells E t cs = some v) (hc : Fcs E g.G cs vs) (hx : CellsOf E t x vs) : Rep E g v x := by
  unfold ofCells at h
  unfold CellsOf at hx
  cases ha : (E.ty t).agg with
  | true =>
    rw [ha] at h hx
    dsimp only at h hx
    simp only [Option.some.injEq] at h
    subst h; subst hx
    exact .agg hc.reps hc.one
  | false =>
    rw [ha] at h hx
    dsimp only at h hx
    subst hx
    cases hc with
    | cons a b =>
      simp only [List.head?_cons, Option.some.injEq] at h
      subst h
      exact .fc a
theorem elemOf_ok (hE : EnvOk P E) {e : K} {k : V T} {x : T e} {p : Value} (h : elemOf E e k = some x) (hp : Rep E g k p) : Fcs E g.G (E.enc e x) p.cells.toList ∧ CellsOf E (E.num e) p p.cells.toList := by
  unfold elemOf at h
  split at h
  · rename_i hk
    have hfc := hE.dec g e _ _ _ h hp.cells
    refine ⟨hfc, ?_⟩
    unfold valOk at hk
    unfold CellsOf
    cases ha : (E.ty (E.num e)).agg with
    | true =>
      rw [ha] at hk
      cases k <;> first
        | (cases hk; done)
        | (obtain ⟨vs, _, _, rfl⟩ := hp.agg_inv
           rfl)
    | false =>
      rw [ha] at hk
      dsimp only
      cases p with
      | agg ps =>
        cases hp <;> first
          | (cases hk; done)
          | (rename_i hh; cases hh)
      | _ => rfl
  · cases h

theorem keyOf_ok (hE : EnvOk P E) {e : K} {k : V T} {key : T e} {p : Value} (h : keyOf E e k = some key) (hp : Rep E g k p) : keyedT E (E.num e) = true ∧ Fcs E g.G (E.enc e key) p.cells.toList ∧ CellsOf E (E.num e) p p.cells.toList ∧ p.cells.toList.length = E.size (E.num e) := by
  unfold keyOf at h
  split at h
  · rename_i hk
    obtain ⟨h1, h2⟩ := elemOf_ok hE h hp
    exact ⟨hk, h1, h2, by rw [← h1.length, hE.encLen]⟩
  · cases h

section
variable {t i : Nat} {kt et : K} {r : Nat} {es : Array MapEntry} {clock : Nat}
theorem lookup_run (hE : EnvOk P E) (hu : P.underlying t = some (.map (E.num kt) (E.num et))) (hh : w.heap[r]? = some (.map es clock)) {p : Value} {d : TypeDesc} (hd : P.underlying (E.num kt) = some d) (hc : ∀ b, (Instr.checkKey b 10000 (E.num kt) p).run P w = .ok () w)
    {v : Value} {there : Bool} (ok : Bool) (hf : (∃ j, Finds P (E.num kt) d p es.toList 0 (some (j, v)) ∧ there = true) ∨ (Finds P (E.num kt) d p es.toList 0 none ∧ there = false ∧ ∃ inf, P.info? (E.num et) = some inf ∧ inf.zero = some v)) :
    (Instr.lookup t (.map (some r)) p ok).run P w = .ok (if ok = true then .tuple #[v, .bool there] else v) w := by
  have hg := run_getObj (P := P) hh (by simp)
  rcases hf with ⟨j, h1, rfl⟩ | ⟨h1, rfl, inf, h2, h3⟩
  · simp [Instr.lookup, run_underlying hu, hg, hc, h1.run hd]
  · simp [Instr.lookup, run_underlying hu, hg, hc, h1.run hd, zeroValue, typeInfo, h2, h3]
end

theorem lookup_ok (hE : EnvOk P E) {t : Nat} {m x : Operand} {ok : Bool} (hi : Inv E g st w) (hf : FrOk E g fr a.tmps) {k : Ask T} (h : lookupA E fr o t m x ok = some k) (hop : o.op = .lookup t m x ok) :
    SoundAsk P E g st w ((execOp a.eval o).run P w) k := by
  have ht := hE.ty t
  unfold lookupA at h
  split at h
  case h_2 => cases h
  rename_i k0 e0 i kv hty hm hx
  rw [hty] at ht
  simp only [Option.some.injEq] at h
  subst h
  intro ob v hob hl
  obtain ⟨r, bs, hM, hmv⟩ := (evalO_ok hf hm).map_inv
  have hok := hi.obs i _ _ hob hM
  unfold lookK at hl
  split at hl
  case h_2 => cases hl
  rename_i kt et ents
  split at hl
  case h_2 => cases hl
  rename_i key z hck hkey hz
  simp only [Bool.and_eq_true, decide_eq_true_eq] at hck
  obtain ⟨rfl, rfl⟩ := hck
  split at hl
  case h_2 => cases hl
  rename_i v' hv'
  simp only [Option.some.injEq, Prod.mk.injEq, true_and] at hl
  subst hl
  obtain ⟨hk, hp, hp', hpl⟩ := keyOf_ok hE hkey (evalO_ok hf hx)
  obtain ⟨es, clock, hh, hen, _, _, _⟩ := hok
  obtain ⟨d, hd⟩ := keyed_desc hE hk
  have hc := fun b => run_checkKey (P := P) (w := w) (p := a.eval x) hE b hk hp' hpl
  obtain ⟨inf, zx, vs, z1, z2, _, _, _, _, _, _, z3, z4⟩ := zeroT_ok hE g.G hz
  have key : ∀ {u : Value} {there : Bool}, Rep E g v' u → there = (lookupT kt et E ents key).isSome → (Instr.lookup t (.map (some r)) (a.eval x) ok).run P w = .ok (if ok = true then .tuple #[u, .bool there] else u) w →
      Gives E g w ((execOp a.eval o).run P w) st (lookRes ok (lookupT kt et E ents key).isSome v') := fun {u there} h1 h2 h3 => by
    subst h2
    refine .here hi (x := if ok = true then .tuple #[u, .bool (lookupT kt et E ents key).isSome] else u) (by simp [execOp, hop, hmv, h3]) ?_
    cases ok
    · exact h1
    · exact .tup (.cons h1 (.cons (.bool _ _) .nil))
  rcases hen.find hE hk hd hp hp' 0 with ⟨a1, a2, a3, a4⟩ | ⟨j, e, v, vcs, a1, a2, a3, a4, a5, a6, a7⟩
  · rw [a2] at hv'
    refine key (ofCells_ok hv' z3 z4) (there := false) (by rw [a2]; rfl) ?_
    exact lookup_run hE ht.1 hh hd hc ok (.inr ⟨a1, rfl, inf, z1, z2⟩)
  · rw [a4] at hv'
    refine key (ofCells_ok hv' a5 a6) (there := true) (by rw [a4]; rfl) ?_
    exact lookup_run hE ht.1 hh hd hc ok (.inl ⟨_, a3, rfl⟩)

theorem ents_le {g g' : Gh} (hG : g'.G = g.G) {kt et : K} : ∀ {ps : List (T kt × T et)} {es : List MapEntry} {bs : List (Value × Nat)}, Ents E g kt et ps es bs → Ents E g' kt et ps es bs
  | _, _, _, .nil => .nil
  | _, _, _, .cons a b c d h => .cons (by rw [hG]; exact a) b (by rw [hG]; exact c) d (ents_le hG h)
/-- A map that gets new entries, or whose entries change. -/
theorem map_write (hi : Inv E g st w) {i r : Nat} {kt et : K} {ents ents' : List (T kt × T et)} {bs bs' : List (Value × Nat)} {es es' : Array MapEntry} {clock clock' : Nat} (hob : st[i]? = some (.map kt et ents)) (hM : g.M[i]? = some (.map r bs))
    (hh : w.heap[r]? = some (.map es clock)) (hen : Ents E g kt et ents' es'.toList bs') (hsub : ∀ p ∈ bs, p ∈ bs') (hb : ∀ p ∈ bs', p.2 < clock') (h1 : (bs'.map (·.2)).Nodup) (h2 : (bs'.map (·.1)).Nodup) :
    ∃ g', To E g w g' (st.set i (.map kt et ents')) { w with heap := w.heap.setIfInBounds r (.map es' clock') } ∧ g'.M[i]? = some (.map r bs') := by
  have hr : r < w.heap.size := heap_lt hh
  have hnone : ∀ off, g.G r off = none := fun off => by
    cases hg : g.G r off with
    | none => rfl
    | some v =>
      have := hi.froz _ _ _ hg
      simp [World.cell?, hh] at this
  have hstep := hi.step (w' := { w with heap := w.heap.setIfInBounds r (.map es' clock') }) (ob' := .map kt et ents') (l' := .map r bs') (G' := g.G) hob hM ⟨rfl, hsub⟩ (.refl _) (fun b off v hv => by
      by_cases hb : b = r
      · subst hb; rw [hnone] at hv; cases hv
      · have : (w.heap.setIfInBounds r (.map es' clock'))[b]? = w.heap[b]? := Array.getElem?_setIfInBounds_ne (fun e => hb e.symm)
        rw [cell?_block (w := w) this]; exact hi.froz b off v hv)
    rfl rfl rfl (by simp) (fun b _ hne => ⟨Array.getElem?_setIfInBounds_ne (fun e => hne (by rw [e]; rfl)), fun _ => rfl⟩) (fun b hb => .inl hb)
    ⟨es', clock', by show (w.heap.setIfInBounds r (.map es' clock'))[r]? = _; simp [hr], ents_le (g := g) (g' := ⟨g.G, g.M.set i (.map r bs')⟩) rfl hen, hb, h1, h2⟩
  exact ⟨_, ⟨hstep.2.2, hstep.1, hstep.2.1⟩, List.getElem?_set_self (List.getElem?_eq_some_iff.1 hM).1⟩

theorem keyStays {p : Value} (h : Instr.sameBits 10000 p p = true) : (Instr.keyThatStays p p).run P w = .ok p w := by
  simp [Instr.keyThatStays, h]

theorem mapUpdate_ok (hE : EnvOk P E) {t : Nat} {m x y : Operand} (hi : Inv E g st w) (hf : FrOk E g fr a.tmps) {k : Ask T} (h : mapUpdateA E fr o t m x y = some k) (hop : o.op = .mapUpdate t m x y) :
    SoundAsk P E g st w ((execOp a.eval o).run P w) k := by
  have ht := hE.ty t
  unfold mapUpdateA at h
  split at h
  case h_2 => cases h
  rename_i k0 e0 i kv xv hty hm hx hy
  rw [hty] at ht
  simp only [Option.some.injEq] at h
  subst h
  intro ob ob' v hob hl
  obtain ⟨r, bs, hM, hmv⟩ := (evalO_ok hf hm).map_inv
  have hok := hi.obs i _ _ hob hM
  unfold updK at hl
  split at hl
  case h_2 => cases hl
  rename_i kt et ents
  split at hl
  case h_2 => cases hl
  rename_i key val hck hkey hval
  simp only [Bool.and_eq_true, decide_eq_true_eq] at hck
  obtain ⟨rfl, rfl⟩ := hck
  simp only [Option.some.injEq, Prod.mk.injEq, true_and] at hl
  obtain ⟨rfl, rfl⟩ := hl
  obtain ⟨hk, hp, hp', hpl⟩ := keyOf_ok hE hkey (evalO_ok hf hx)
  obtain ⟨hv, hv'⟩ := elemOf_ok hE hval ((evalO_ok hf hy).coerce _)
  obtain ⟨es, clock, hh, hen, hlt, hn2, hn1⟩ := hok
  obtain ⟨d, hd⟩ := keyed_desc hE hk
  have hg := run_getObj (P := P) hh (by simp)
  have hc := fun b => run_checkKey (P := P) (w := w) (p := a.eval x) hE b hk hp' hpl
  have hsb := (key_same hE hk hd hp hp' hp hp').2.2.2
  have hkeys := hen.keys
  rcases hen.find hE hk hd hp hp' 0 with ⟨a1, a2, a3, a4⟩ | ⟨j, e, v, vcs, a1, a2, a3, a4, a5, a6, a7⟩
  · rw [a3]
    have hs := run_setObj (P := P) (ob' := .map (es.push { key := a.eval x, val := a.eval y, born := clock }) (clock + 1)) hh (by simp)
    obtain ⟨g', h1, _⟩ := map_write (es' := es.push { key := a.eval x, val := a.eval y, born := clock }) (clock' := clock + 1) (ents' := ents ++ [(key, val)]) (bs' := bs ++ [(a.eval x, clock)]) hi hob hM hh
      (by
        rw [Array.toList_push]
        exact Ents.snoc (e := { key := a.eval x, val := a.eval y, born := clock }) hp hp' hv hv' hen)
      (fun p hp => List.mem_append_left _ hp) (fun p hp => by
        rcases List.mem_append.1 hp with hp | hp
        · have := hlt p hp; omega
        · simp only [List.mem_singleton] at hp; subst hp; simp)
      (by
        rw [List.map_append, List.nodup_append]
        refine ⟨hn2, by simp, ?_⟩
        intro q hq r' hr'
        obtain ⟨p, hp, rfl⟩ := List.mem_map.1 hq
        have := hlt p hp
        simp only [List.map_cons, List.map_nil, List.mem_singleton] at hr'
        omega)
      (by
        rw [List.map_append, List.nodup_append]
        refine ⟨hn1, by simp, ?_⟩
        intro q hq r' hr' he
        simp only [List.map_cons, List.map_nil, List.mem_singleton] at hr'
        subst hr'; subst he
        exact a4 hq)
    refine ⟨g', _, ?_, h1⟩
    simp [execOp, hop, hmv, Instr.mapUpdate, run_underlying ht.1, hg, hc, a1.run hd, hs]
  · have hej : es[j]? = some e := by rw [← Array.getElem?_toList]; exact a1
    have hs := run_setObj (P := P) (ob' := .map (es.modify j fun e => { e with key := a.eval x, val := a.eval y }) clock) hh (by simp)
    have hst := keyStays (P := P) (w := w) hsb
    obtain ⟨g', h1, _⟩ := map_write (es' := es.modify j fun e => { e with key := a.eval x, val := a.eval y }) (clock' := clock) (ents' := updT kt et E ents key val) (bs' := bs) hi hob hM hh
      (by
        rw [Array.toList_modify]
        exact a7 val _ _ _ hv hv' rfl rfl rfl)
      (fun p hp => hp) hlt hn2 hn1
    refine ⟨g', _, ?_, h1⟩
    simp [execOp, hop, hmv, Instr.mapUpdate, run_underlying ht.1, hg, hc, a3.run hd, hej, a2, hst, hs]

theorem mapEntry_ok (hE : EnvOk P E) {t : Nat} {m x : Operand} (hi : Inv E g st w) (hf : FrOk E g fr a.tmps) {k : Ask T} (h : mapEntryA E fr o t m x = some k) (hop : o.op = .mapEntry t m x) :
    SoundAsk P E g st w ((execOp a.eval o).run P w) k := by
  have ht := hE.ty t
  unfold mapEntryA at h
  split at h
  case h_2 => cases h
  rename_i k0 e0 i kv hty hm hx
  rw [hty] at ht
  simp only [Option.some.injEq] at h
  subst h
  intro ob ob' v hob hl
  obtain ⟨r, bs, hM, hmv⟩ := (evalO_ok hf hm).map_inv
  have hok := hi.obs i _ _ hob hM
  unfold entK at hl
  split at hl
  case h_2 => cases hl
  rename_i kt et ents
  split at hl
  case h_2 => cases hl
  rename_i key z hck hkey hz
  simp only [Bool.and_eq_true, decide_eq_true_eq] at hck
  obtain ⟨rfl, rfl⟩ := hck
  split at hl
  case h_2 => cases hl
  rename_i v' hv'
  simp only [Option.some.injEq, Prod.mk.injEq, true_and] at hl
  obtain ⟨rfl, rfl⟩ := hl
  have hxv := evalO_ok hf hx
  obtain ⟨hk, hp, hp', hpl⟩ := keyOf_ok hE hkey hxv
  obtain ⟨es, clock, hh, hen, hlt, hn2, hn1⟩ := hok
  obtain ⟨d, hd⟩ := keyed_desc hE hk
  obtain ⟨inf, zx, vs, z1, z2, _, _, _, _, _, _, z3, z4⟩ := zeroT_ok hE g.G hz
  have hg := run_getObj (P := P) hh (by simp)
  have hc := fun b => run_checkKey (P := P) (w := w) (p := a.eval x) hE b hk hp' hpl
  have hsb := (key_same hE hk hd hp hp' hp hp').2.2.2
  have hkeys := hen.keys
  dsimp only
  rcases hen.find hE hk hd hp hp' 0 with ⟨a1, a2, a3, a4⟩ | ⟨j, e, v, vcs, a1, a2, a3, a4, a5, a6, a7⟩
  · rw [a2] at hv'
    rw [a2, a3]
    have hs := run_setObj (P := P) (ob' := .map (es.push { key := a.eval x, val := zx, born := clock }) (clock + 1)) hh (by simp)
    obtain ⟨g', h1, h2⟩ := map_write (es' := es.push { key := a.eval x, val := zx, born := clock }) (clock' := clock + 1) (ents' := ents ++ [(key, z)]) (bs' := bs ++ [(a.eval x, clock)]) hi hob hM hh
      (by
        rw [Array.toList_push]
        exact Ents.snoc (e := { key := a.eval x, val := zx, born := clock }) hp hp' z3 z4 hen)
      (fun p hp => List.mem_append_left _ hp) (fun p hp => by
        rcases List.mem_append.1 hp with hp | hp
        · have := hlt p hp; omega
        · simp only [List.mem_singleton] at hp; subst hp; simp)
      (by
        rw [List.map_append, List.nodup_append]
        refine ⟨hn2, by simp, ?_⟩
        intro q hq r' hr'
        obtain ⟨p, hp, rfl⟩ := List.mem_map.1 hq
        have := hlt p hp
        simp only [List.map_cons, List.map_nil, List.mem_singleton] at hr'
        omega)
      (by
        rw [List.map_append, List.nodup_append]
        refine ⟨hn1, by simp, ?_⟩
        intro q hq r' hr' he
        simp only [List.map_cons, List.map_nil, List.mem_singleton] at hr'
        subst hr'; subst he
        exact a4 hq)
    refine ⟨g', _, .tuple #[zx, goInt clock], ?_, h1, ?_⟩
    · simp [execOp, hop, hmv, Instr.mapEntry, run_underlying ht.1, hg, hc, a1.run hd, hs, zeroValue, typeInfo, z1, z2]
    · exact .tup (.cons (ofCells_ok hv' (z3.mono h1.le.G) z4) (.cons (.stamp h2 (hxv.mono h1.le) (by simp)) .nil))
  · have hej : es[j]? = some e := by rw [← Array.getElem?_toList]; exact a1
    rw [a4] at hv'
    rw [a4]
    have hs := run_setObj (P := P) (ob' := .map (es.modify j fun e => { e with key := a.eval x }) clock) hh (by simp)
    have hst := keyStays (P := P) (w := w) hsb
    obtain ⟨g', h1, h2⟩ := map_write (es' := es.modify j fun e => { e with key := a.eval x }) (clock' := clock) (ents' := updT kt et E ents key v) (bs' := bs) hi hob hM hh
      (by
        rw [Array.toList_modify]
        exact a7 v _ _ _ a5 a6 rfl rfl rfl)
      (fun p hp => hp) hlt hn2 hn1
    refine ⟨g', _, .tuple #[e.val, goInt e.born], ?_, h1, ?_⟩
    · simp [execOp, hop, hmv, Instr.mapEntry, run_underlying ht.1, hg, hc, a3.run hd, hej, a2, hst, hs]
    · refine .tup (.cons (ofCells_ok hv' (a5.mono h1.le.G) a6) (.cons (.stamp h2 (hxv.mono h1.le) ?_) .nil))
      rw [hkeys, ← a2]
      exact List.mem_map.2 ⟨e, List.mem_of_getElem? a1, rfl⟩

theorem findIdx_born {es : List MapEntry} {j : Nat} {e : MapEntry} (h : es[j]? = some e) (hn : (es.map (·.born)).Nodup) : es.findIdx? (fun e' => (e'.born : Int) == (e.born : Int)) = some j := by
  induction es generalizing j with
  | nil => simp at h
  | cons e' es ih =>
    rw [List.map_cons, List.nodup_cons] at hn
    cases j with
    | zero =>
      simp only [List.getElem?_cons_zero, Option.some.injEq] at h
      subst h
      simp [List.findIdx?_cons]
    | succ j =>
      simp only [List.getElem?_cons_succ] at h
      have hne : ¬ (e'.born = e.born) := fun he => hn.1 (by rw [he]; exact List.mem_map.2 ⟨e, List.mem_of_getElem? h, rfl⟩)
      have := ih h hn.2
      simp only [List.findIdx?_cons, this]
      have hb : ((e'.born : Int) == (e.born : Int)) = false := by
        rw [beq_eq_false_iff_ne]
        omega
      rw [hb]
      simp
theorem entryStore_ok (hE : EnvOk P E) {t : Nat} {m x y : Operand} (hi : Inv E g st w) (hf : FrOk E g fr a.tmps) {k : Ask T} (h : entryStoreA E fr o t m x y = some k) (hop : o.op = .entryStore t m x y) :
    SoundAsk P E g st w ((execOp a.eval o).run P w) k := by
  have ht := hE.ty t
  unfold entryStoreA at h
  split at h
  case h_2 => cases h
  rename_i k0 e0 i j0 kv xv hty hm hx hy
  rw [hty] at ht
  split at h
  case h_2 => cases h
  rename_i hij
  have hij' := Nat.eq_of_beq_eq_true hij
  subst hij'
  simp only [Option.some.injEq] at h
  subst h
  intro ob ob' v hob hl
  obtain ⟨r, bs, hM, hmv⟩ := (evalO_ok hf hm).map_inv
  have hok := hi.obs i _ _ hob hM
  have hsv := evalO_ok hf hx
  obtain ⟨kx, born, hkx, hmem, hsx⟩ : ∃ kx born, Rep E g kv kx ∧ (kx, born) ∈ bs ∧ a.eval x = .int .i64 born := by
    generalize a.eval x = q at hsv
    cases hsv with
    | fc h => cases h
    | stamp h1 h2 h3 =>
      rw [hM] at h1
      cases h1
      exact ⟨_, _, h2, h3, rfl⟩
  unfold updK at hl
  split at hl
  case h_2 => cases hl
  rename_i kt et ents
  split at hl
  case h_2 => cases hl
  rename_i key val hck hkey hval
  simp only [Bool.and_eq_true, decide_eq_true_eq] at hck
  obtain ⟨rfl, rfl⟩ := hck
  simp only [Option.some.injEq, Prod.mk.injEq, true_and] at hl
  obtain ⟨rfl, rfl⟩ := hl
  obtain ⟨hk, hp, hp', hpl⟩ := keyOf_ok hE hkey hkx
  obtain ⟨hv, hv'⟩ := elemOf_ok hE hval ((evalO_ok hf hy).coerce _)
  obtain ⟨es, clock, hh, hen, hlt, hn2, hn1⟩ := hok
  obtain ⟨d, hd⟩ := keyed_desc hE hk
  have hg := run_getObj (P := P) hh (by simp)
  have hkeys := hen.keys
  rcases hen.find hE hk hd hp hp' 0 with ⟨a1, a2, a3, a4⟩ | ⟨j, e, v, vcs, a1, a2, a3, a4, a5, a6, a7⟩
  · exact absurd (List.mem_map.2 ⟨_, hmem, rfl⟩) a4
  · have hborn : e.born = born := by
      have h1 : (e.key, e.born) ∈ bs := by rw [hkeys]; exact List.mem_map.2 ⟨e, List.mem_of_getElem? a1, rfl⟩
      rw [a2] at h1
      have inj : ∀ (l : List (Value × Nat)), (l.map (·.1)).Nodup → ∀ {k : Value} {x y : Nat}, (k, x) ∈ l → (k, y) ∈ l → x = y := by
        intro l
        induction l with
        | nil => intro _ _ _ _ h; cases h
        | cons q l ih =>
          intro hn k x y hx hy
          rw [List.map_cons, List.nodup_cons] at hn
          rcases List.mem_cons.1 hx with hx2 | hx2 <;> rcases List.mem_cons.1 hy with hy2 | hy2
          · rw [← hx2] at hy2; cases hy2; rfl
          · subst hx2; exact absurd (show k ∈ l.map (·.1) from List.mem_map.2 ⟨(k, y), hy2, rfl⟩) hn.1
          · subst hy2; exact absurd (show k ∈ l.map (·.1) from List.mem_map.2 ⟨(k, x), hx2, rfl⟩) hn.1
          · exact ih hn.2 hx2 hy2
      exact inj bs hn1 h1 hmem
    have hs := run_setObj (P := P) (ob' := .map (es.modify j fun e => { e with val := a.eval y }) clock) hh (by simp)
    have hfi : es.findIdx? (fun e' => (e'.born : Int) == (born : Int)) = some j := by
      have := findIdx_born a1 (by rw [hkeys, List.map_map] at hn2; exact hn2)
      rw [hborn] at this
      have h2 := List.findIdx?_toArray (p := fun e' : MapEntry => (e'.born : Int) == (born : Int)) (l := es.toList)
      rw [this] at h2
      simpa using h2
    obtain ⟨g', h1, _⟩ := map_write (es' := es.modify j fun e => { e with val := a.eval y }) (clock' := clock) (ents' := updT kt et E ents key val) (bs' := bs) hi hob hM hh
      (by
        rw [Array.toList_modify]
        exact a7 val _ _ _ hv hv' a2 rfl rfl)
      (fun p hp => hp) hlt hn2 hn1
    refine ⟨g', _, ?_, h1⟩
    simp [execOp, hop, hmv, Instr.entryStore, hg, hsx, asInt, asIntOf, hfi, hs]
end
end Go.Proofs.YtnenfgpjedddoaaGreat.AI

/- Each operation does what the abstract interpreter says: all of them. -/
set_option linter.unusedVariables false
set_option linter.unusedSectionVars false
set_option linter.unusedSimpArgs false
namespace Go.Proofs.YtnenfgpjedddoaaGreat.AI
open Go

variable {K : Type} [DecidableEq K] {T : K → Type} {E : Env T} {P : Program}
section
variable {g : Gh} {st : List (Ob T)} {w : World} {fr : Fr T} {a : Act} (o : Oper)

theorem argsV_ok' (hf : FrOk E g fr a.tmps) {c : Call} {args : List (V T)} (h : argsV E fr c.args.toList c.argTypes.toList = some args) : Reps E g args (c.args.map a.eval).toList := by
  have := argsV_ok hf _ _ _ h
  simpa using this
theorem call_ok (hE : EnvOk P E) {c : Call} (hi : Inv E g st w) (hf : FrOk E g fr a.tmps) {k : Ask T} (h : callA E fr o c = some k) (hop : o.op = .call c) :
    SoundAsk P E g st w ((execOp a.eval o).run P w) k := by
  unfold callA at h
  split at h
  · rename_i b hc
    cases ha : argsV E fr c.args.toList c.argTypes.toList with
    | none => simp [ha] at h
    | some args =>
      simp only [ha, Option.bind_some] at h
      have hr := argsV_ok' hf ha
      have run : ∀ v w', ((builtin b c.argTypes o.type (c.args.map fun x => match x with | Operand.const v => true | x => false) (c.args.map a.eval)).run P w = .ok v w') → (execOp a.eval o).run P w = .ok v w' := fun v w' hb => by
        simp [execOp, hop, resolve, hc, invoke]
        exact hb
      unfold builtinV at h
      split at h
      · rename_i t x ht
        have hat : c.argTypes = #[t] := Array.ext' ht
        generalize c.args.map a.eval = qs at hr run
        obtain ⟨l⟩ := qs
        cases hr with
        | cons h1 h2 => cases h2 with
          | nil => exact len_ok (hE.ty t) hi h1 h (ty := o.type) (fun v w' hb => run _ _ (by rw [hat]; simp [builtin, hb]))
      · rename_i x xs
        cases hm : foldV max2 x xs with
        | none => simp [hm] at h
        | some z =>
          simp only [hm, Option.map_some, Option.some.injEq] at h
          subst h
          generalize c.args.map a.eval = qs at hr run
          obtain ⟨l⟩ := qs
          cases hr with
          | cons h1 h2 =>
            obtain ⟨r, h3, h4⟩ := fold_max (P := P) (w := w) (f := max2) (m := Builtin.max2) max2_ok _ _ _ _ _ h1 h2 hm
            exact .here hi (run _ _ (by simp [builtin, Builtin.max_, h3])) h4
      · rename_i x xs
        cases hm : foldV min2 x xs with
        | none => simp [hm] at h
        | some z =>
          simp only [hm, Option.map_some, Option.some.injEq] at h
          subst h
          generalize c.args.map a.eval = qs at hr run
          obtain ⟨l⟩ := qs
          cases hr with
          | cons h1 h2 =>
            obtain ⟨r, h3, h4⟩ := fold_max (P := P) (w := w) (f := min2) (m := Builtin.min2) min2_ok _ _ _ _ _ h1 h2 hm
            exact .here hi (run _ _ (by simp [builtin, Builtin.min_, h3])) h4
      · rename_i t u s x ht
        have hat : c.argTypes = #[t, u] := Array.ext' ht
        split at h
        · rename_i e0 e1 h0 h1
          generalize c.args.map a.eval = qs at hr run
          obtain ⟨l⟩ := qs
          cases hr with
          | cons k1 k2 => cases k2 with
            | cons k2 k3 => cases k3 with
              | nil => exact append_ok hE hi h0 h1 k1 k2 h (ty := o.type) (fun v w' hb => run _ _ (by rw [hat]; simp [builtin, hb]))
        · cases h
      · cases h
  · rename_i x hc
    split at h
    · rename_i f first caps args hx ha
      simp only [Option.some.injEq] at h
      subst h
      obtain ⟨xs, ys, h1, h2, h3⟩ := (evalO_ok hf hx).fn_inv
      refine ⟨xs ++ c.args.toList.map a.eval ++ ys, (h1.append (by simpa using argsV_ok' hf ha)).append h2, fun fn hfn hb hn => ?_⟩
      exact call_run o hop hc h3 hfn hb hn
    · cases h
  · cases h

theorem opAct_sound (hE : EnvOk P E) (hi : Inv E g st w) (hf : FrOk E g fr a.tmps) {k : Ask T} (h : opAct E fr o = some k) : SoundAsk P E g st w ((execOp a.eval o).run P w) k := by
  unfold opAct at h
  cases hop : o.op <;> rw [hop] at h <;> (try dsimp only at h)
  case move x => exact move_ok o hi hf h (.inl hop)
  case assign x => exact move_ok o hi hf h (.inr hop)
  case pick c x y => exact pick_ok o hi hf h hop
  case alloc t => exact alloc_ok o hE hi hf h hop
  case box t x => exact box_ok o hi hf h hop
  case build t parts => exact build_ok o hE hi hf h hop
  case buildSlice t len parts => exact buildSlice_ok o hE hi hf h hop
  case load t x => exact load_ok o hE hi hf h hop
  case store t x y => exact store_ok o hE hi hf h hop
  case nilCheck x => exact nilCheck_ok o hi hf h hop
  case binOp op t x y u => exact binOp_ok o hE hi hf h hop
  case unOp op t x => exact unOp_ok o hi hf h hop
  case convert src dst x => exact convert_ok o hE hi hf h hop
  case makeFunc fn first captured =>
    cases fn <;> first
      | (cases h; done)
      | exact makeFunc_ok o hi hf h hop
  case makeMap t r => exact makeMap_ok o hE hi hf h hop
  case makeSlice t l c => exact makeSlice_ok o hE hi hf h hop
  case slice t x lo hi' mx => exact slice_ok o hE hi hf h hop
  case fieldAddr t x f => exact fieldAddr_ok o hE hi hf h hop
  case field t x f => exact field_ok o hE hi hf h hop
  case indexAddr t x ix => exact indexAddr_ok o hE hi hf h hop
  case index t x ix => exact index_ok o hE hi hf h hop
  case lookup t m k ok => exact lookup_ok o hE hi hf h hop
  case mapUpdate t m k x => exact mapUpdate_ok o hE hi hf h hop
  case mapEntry t m k => exact mapEntry_ok o hE hi hf h hop
  case entryStore t m s x => exact entryStore_ok o hE hi hf h hop
  case range t x => exact range_ok o hE hi hf h hop
  case next x isString =>
    cases isString
    · cases h
    · exact next_ok o hi hf h hop
  case extract x j => exact extract_ok o hi hf h hop
  case call c => exact call_ok o hE hi hf h hop
  case select => cases h
  all_goals cases h
end
end Go.Proofs.YtnenfgpjedddoaaGreat.AI
