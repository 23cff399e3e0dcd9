/- What slices.Backward returns: its shape. -/
import Derived.Test.YtnenfgpjedddoaaGreatAISteps
import Derived.AtR
import Derived.RangeFuncRecord
set_option linter.unusedVariables false
set_option linter.unusedSectionVars false
set_option linter.unusedSimpArgs false
namespace Go.Proofs.YtnenfgpjedddoaaGreat.AI
open Go

variable {K : Type} [DecidableEq K] {T : K → Type} {E : Env T} {P : Program}

def Shaped : OpShape → Op → Prop
  | .load t s, op => op = .load t (.tmp s)
  | .len t s, op => op = .call { callee := .builtin .len, args := #[.tmp s], argTypes := #[t] }
  | .sub s, op => ∃ t u, op = .binOp .sub t (.tmp s) (.const (.int .i64 1)) u
  | .mov s, op => op = .move (.tmp s) ∨ op = .assign (.tmp s)
  | .geq s, op => ∃ t u, op = .binOp .geq t (.tmp s) (.const (.int .i64 0)) u
  | .idx t x i, op => op = .indexAddr t (.tmp x) (.tmp i)
  | .yld, op => ∃ ts, op = .call { callee := .value (.tmp 11), args := #[.tmp 12, .tmp 16], argTypes := ts }
  | .not s, op => ∃ t, op = .unOp .not t (.tmp s)
theorem isTmp_spec {s : Nat} {x : Operand} (h : isTmp s x = true) : x = .tmp s := by
  cases x <;> simp only [isTmp, Bool.false_eq_true] at h
  rw [Nat.eq_of_beq_eq_true h]
theorem isInt_spec {v : Int} {x : Operand} (h : isInt v x = true) : x = .const (.int .i64 v) := by
  unfold isInt at h
  split at h
  · rw [of_decide_eq_true h]
  · cases h
theorem shapeB_spec {s : OpShape} {op : Op} (h : shapeB s op = true) : Shaped s op := by
  unfold shapeB at h
  split at h
  · simp only [Bool.and_eq_true] at h
    rw [Nat.eq_of_beq_eq_true h.1, isTmp_spec h.2]
    rfl
  · rename_i c
    split at h
    · rename_i h1 h2 h3
      simp only [Bool.and_eq_true] at h
      have ha : c.args = #[_] := Array.ext' h2
      have hb : c.argTypes = #[_] := Array.ext' h3
      obtain ⟨callee, args, ats⟩ := c
      dsimp only at h1 ha hb
      subst h1 ha hb
      rw [Nat.eq_of_beq_eq_true h.1, isTmp_spec h.2]
      rfl
    · cases h
  · simp only [Bool.and_eq_true] at h
    rw [isTmp_spec h.1, isInt_spec h.2]
    exact ⟨_, _, rfl⟩
  · rw [isTmp_spec h]; exact .inl rfl
  · rw [isTmp_spec h]; exact .inr rfl
  · simp only [Bool.and_eq_true] at h
    rw [isTmp_spec h.1, isInt_spec h.2]
    exact ⟨_, _, rfl⟩
  · simp only [Bool.and_eq_true] at h
    rw [Nat.eq_of_beq_eq_true h.1, isTmp_spec h.2.1, isTmp_spec h.2.2]
    rfl
  · rename_i c
    split at h
    · rename_i h1 h2
      simp only [Bool.and_eq_true] at h
      have ha : c.args = #[_, _] := Array.ext' h2
      obtain ⟨callee, args, ats⟩ := c
      dsimp only at h1 ha
      subst h1 ha
      rw [isTmp_spec h.1, isTmp_spec h.2.1, isTmp_spec h.2.2]
      exact ⟨_, rfl⟩
    · cases h
  · rw [isTmp_spec h]; exact ⟨_, rfl⟩
  · cases h
/-- These operations, one by one. -/
def Shapes (ss : List (Nat × OpShape)) (r : Array Oper) : Prop := r.size = ss.length ∧ ∀ (j d : Nat) (s : OpShape), ss[j]? = some (d, s) → ∃ o, r[j]? = some o ∧ o.dst = some d ∧ o.guard = none ∧ Shaped s o.op
theorem shapesB_spec : ∀ {ss : List (Nat × OpShape)} {os : List Oper}, shapesB ss os = true → os.length = ss.length ∧ ∀ (j d : Nat) (s : OpShape), ss[j]? = some (d, s) → ∃ o, os[j]? = some o ∧ o.dst = some d ∧ o.guard = none ∧ Shaped s o.op
  | [], [], _ => ⟨rfl, fun j d s h => by simp at h⟩
  | (d, s) :: ss, o :: os, h => by
    simp only [shapesB, Bool.and_eq_true] at h
    obtain ⟨h1, h2, h3, h4⟩ := h
    obtain ⟨k1, k2⟩ := shapesB_spec h4
    refine ⟨by simp [k1], fun j d' s' hj => ?_⟩
    cases j with
    | zero =>
      simp only [List.getElem?_cons_zero, Option.some.injEq, Prod.mk.injEq] at hj
      obtain ⟨rfl, rfl⟩ := hj
      refine ⟨o, rfl, ?_, by simpa using h2, shapeB_spec h3⟩
      unfold dstB at h1
      split at h1
      · rename_i hd; rw [hd, Nat.eq_of_beq_eq_true h1]
      · cases h1
    | succ j => exact k2 j d' s' (by simpa using hj)
  | [], _ :: _, h => by cases h
  | (_, _) :: _, [], h => by cases h
theorem shapes_of {ss : List (Nat × OpShape)} {r : Array Oper} (h : shapesB ss r.toList = true) : Shapes ss r := by
  obtain ⟨h1, h2⟩ := shapesB_spec h
  refine ⟨by simpa using h1, fun j d s hj => ?_⟩
  obtain ⟨o, h3, h4⟩ := h2 j d s hj
  exact ⟨o, by simpa using h3, h4⟩
structure BackFn (P : Program) (E : Env T) (G : Nat) (e : K) where
  fn : Func
  hfn : P.funcs[G]? = some fn
  name : fn.name ≠ "runtime.NumGoroutine"
  ts : Nat
  hts : E.ty ts = .slice e
  i0 : Nat
  i1 : Nat
  i2 : Nat
  i3 : Nat
  b0 : Nat
  b1 : Nat
  r0 : Array Oper
  r1 : Array Oper
  r2 : Array Oper
  r3 : Array Oper
  body : fn.body = some (.seq (.region i0 r0 false) (.block b0 (.loop (.seq (.seq (.region i1 r1 false) (.cond (.tmp 8) .skip (.exit b0))) (.seq (.block b1 (.seq (.region i3 r3 false) (.cond (.tmp 18) .ret .skip))) (.region i2 r2 false))))))
  ntmps : fn.ntmps = 19
  results : fn.results = #[]
  s0 : Shapes [(4, .load ts 1), (5, .len ts 4), (6, .sub 5), (3, .mov 6)] r0
  s1 : Shapes [(7, .mov 3), (8, .geq 7)] r1
  s3 : Shapes [(11, .mov 0), (12, .mov 3), (13, .load ts 1), (14, .mov 3), (15, .idx ts 13 14), (16, .load (E.num e) 15), (17, .yld), (18, .not 17)] r3
  s2 : Shapes [(9, .mov 3), (10, .sub 9), (3, .mov 10)] r2
theorem backB_spec {ts te : Nat} {fn : Func} (h : backB ts te fn = true) : ∃ i0 i1 i2 i3 b0 b1 r0 r1 r2 r3,
    fn.body = some (.seq (.region i0 r0 false) (.block b0 (.loop (.seq (.seq (.region i1 r1 false) (.cond (.tmp 8) .skip (.exit b0))) (.seq (.block b1 (.seq (.region i3 r3 false) (.cond (.tmp 18) .ret .skip))) (.region i2 r2 false)))))) ∧ fn.ntmps = 19 ∧ fn.results = #[] ∧
    Shapes [(4, .load ts 1), (5, .len ts 4), (6, .sub 5), (3, .mov 6)] r0 ∧ Shapes [(7, .mov 3), (8, .geq 7)] r1 ∧
    Shapes [(11, .mov 0), (12, .mov 3), (13, .load ts 1), (14, .mov 3), (15, .idx ts 13 14), (16, .load te 15), (17, .yld), (18, .not 17)] r3 ∧ Shapes [(9, .mov 3), (10, .sub 9), (3, .mov 10)] r2 := by
  unfold backB at h
  split at h
  · rename_i i0 r0 b0 i1 r1 c8 b b1 i3 r3 c18 i2 r2 hb
    simp only [Bool.and_eq_true, List.isEmpty_iff] at h
    obtain ⟨⟨⟨⟨⟨⟨⟨⟨h1, h2⟩, h3⟩, h4⟩, h5⟩, h6⟩, h7⟩, h8⟩, h9⟩ := h
    have e1 := Nat.eq_of_beq_eq_true h1
    have e2 := isTmp_spec h2
    have e3 := isTmp_spec h3
    subst e1 e2 e3
    exact ⟨i0, i1, i2, i3, _, b1, r0, r1, r2, r3, hb, Nat.eq_of_beq_eq_true h4, Array.ext' (by simpa using h5), shapes_of h6, shapes_of h7, shapes_of h8, shapes_of h9⟩
  · cases h
theorem back_spec (hE : EnvOk P E) {G : Nat} {e : K} (h : E.back G = some e) : Nonempty (BackFn P E G e) := by
  have h := hE.back G e h
  unfold isBack at h
  split at h
  · rename_i fn hfn
    split at h
    · split at h
      · split at h
        · split at h
          · rename_i hty
            simp only [Bool.and_eq_true, decide_eq_true_eq] at h
            obtain ⟨rfl, h⟩ := h
            obtain ⟨hp, hn⟩ := hE.fns G fn hfn
            obtain ⟨i0, i1, i2, i3, b0, b1, r0, r1, r2, r3, k1, k2, k3, k4, k5, k6, k7⟩ := backB_spec h
            exact ⟨⟨fn, hp, hn, _, hty, i0, i1, i2, i3, b0, b1, r0, r1, r2, r3, k1, k2, k3, k4, k5, k6, k7⟩⟩
          · cases h
        · cases h
      · cases h
    · cases h
  · cases h
end Go.Proofs.YtnenfgpjedddoaaGreat.AI
