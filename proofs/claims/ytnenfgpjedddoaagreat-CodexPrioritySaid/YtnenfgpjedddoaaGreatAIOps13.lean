/- Each operation does what the abstract interpreter says: all of them. -/
import Derived.Test.YtnenfgpjedddoaaGreatAIOps12
set_option linter.unusedVariables false
set_option linter.unusedSectionVars false
set_option linter.unusedSimpArgs false
namespace Go.Proofs.YtnenfgpjedddoaaGreat.AI
open Go

variable {K : Type} [DecidableEq K] {T : K → Type} {E : Env T} {P : Program}
section
variable {g : Gh} {st : List (Ob T)} {w : World} {fr : Fr T} {a : Act} (o : Oper)

theorem argsV_ok' (hf : FrOk E g fr a.tmps) {c : Call} {args : List (V T)} (h : argsV E fr c.args.toList c.argTypes.toList = some args) : Reps E g args (c.args.map a.eval).toList := by
  have := argsV_ok hf _ _ _ h
  simpa using this
theorem call_ok (hE : EnvOk P E) {c : Call} (hi : Inv E g st w) (hf : FrOk E g fr a.tmps) {k : Ask T} (h : callA E fr o c = some k) (hop : o.op = .call c) :
    SoundAsk P E g st w ((execOp a.eval o).run P w) k := by
  unfold callA at h
  split at h
  · rename_i b hc
    cases ha : argsV E fr c.args.toList c.argTypes.toList with
    | none => simp [ha] at h
    | some args =>
      simp only [ha, Option.bind_some] at h
      have hr := argsV_ok' hf ha
      have run : ∀ v w', ((builtin b c.argTypes o.type (c.args.map fun x => match x with | Operand.const v => true | x => false) (c.args.map a.eval)).run P w = .ok v w') → (execOp a.eval o).run P w = .ok v w' := fun v w' hb => by
        simp [execOp, hop, resolve, hc, invoke]
        exact hb
      unfold builtinV at h
      split at h
      · rename_i t x ht
        have hat : c.argTypes = #[t] := Array.ext' ht
        generalize c.args.map a.eval = qs at hr run
        obtain ⟨l⟩ := qs
        cases hr with
        | cons h1 h2 => cases h2 with
          | nil => exact len_ok (hE.ty t) hi h1 h (ty := o.type) (fun v w' hb => run _ _ (by rw [hat]; simp [builtin, hb]))
      · rename_i x xs
        cases hm : foldV max2 x xs with
        | none => simp [hm] at h
        | some z =>
          simp only [hm, Option.map_some, Option.some.injEq] at h
          subst h
          generalize c.args.map a.eval = qs at hr run
          obtain ⟨l⟩ := qs
          cases hr with
          | cons h1 h2 =>
            obtain ⟨r, h3, h4⟩ := fold_max (P := P) (w := w) (f := max2) (m := Builtin.max2) max2_ok _ _ _ _ _ h1 h2 hm
            exact .here hi (run _ _ (by simp [builtin, Builtin.max_, h3])) h4
      · rename_i x xs
        cases hm : foldV min2 x xs with
        | none => simp [hm] at h
        | some z =>
          simp only [hm, Option.map_some, Option.some.injEq] at h
          subst h
          generalize c.args.map a.eval = qs at hr run
          obtain ⟨l⟩ := qs
          cases hr with
          | cons h1 h2 =>
            obtain ⟨r, h3, h4⟩ := fold_max (P := P) (w := w) (f := min2) (m := Builtin.min2) min2_ok _ _ _ _ _ h1 h2 hm
            exact .here hi (run _ _ (by simp [builtin, Builtin.min_, h3])) h4
      · rename_i t u s x ht
        have hat : c.argTypes = #[t, u] := Array.ext' ht
        split at h
        · rename_i e0 e1 h0 h1
          generalize c.args.map a.eval = qs at hr run
          obtain ⟨l⟩ := qs
          cases hr with
          | cons k1 k2 => cases k2 with
            | cons k2 k3 => cases k3 with
              | nil => exact append_ok hE hi h0 h1 k1 k2 h (ty := o.type) (fun v w' hb => run _ _ (by rw [hat]; simp [builtin, hb]))
        · cases h
      · cases h
  · rename_i x hc
    split at h
    · rename_i f first caps args hx ha
      simp only [Option.some.injEq] at h
      subst h
      obtain ⟨xs, ys, h1, h2, h3⟩ := (evalO_ok hf hx).fn_inv
      refine ⟨xs ++ c.args.toList.map a.eval ++ ys, (h1.append (by simpa using argsV_ok' hf ha)).append h2, fun fn hfn hb hn => ?_⟩
      exact call_run o hop hc h3 hfn hb hn
    · cases h
  · cases h

theorem opAct_sound (hE : EnvOk P E) (hi : Inv E g st w) (hf : FrOk E g fr a.tmps) {k : Ask T} (h : opAct E fr o = some k) : SoundAsk P E g st w ((execOp a.eval o).run P w) k := by
  unfold opAct at h
  cases hop : o.op <;> rw [hop] at h <;> (try dsimp only at h)
  case move x => exact move_ok o hi hf h (.inl hop)
  case assign x => exact move_ok o hi hf h (.inr hop)
  case pick c x y => exact pick_ok o hi hf h hop
  case alloc t => exact alloc_ok o hE hi hf h hop
  case box t x => exact box_ok o hi hf h hop
  case build t parts => exact build_ok o hE hi hf h hop
  case buildSlice t len parts => exact buildSlice_ok o hE hi hf h hop
  case load t x => exact load_ok o hE hi hf h hop
  case store t x y => exact store_ok o hE hi hf h hop
  case nilCheck x => exact nilCheck_ok o hi hf h hop
  case binOp op t x y u => exact binOp_ok o hE hi hf h hop
  case unOp op t x => exact unOp_ok o hi hf h hop
  case convert src dst x => exact convert_ok o hE hi hf h hop
  case makeFunc fn first captured =>
    cases fn <;> first
      | (cases h; done)
      | exact makeFunc_ok o hi hf h hop
  case makeMap t r => exact makeMap_ok o hE hi hf h hop
  case makeSlice t l c => exact makeSlice_ok o hE hi hf h hop
  case slice t x lo hi' mx => exact slice_ok o hE hi hf h hop
  case fieldAddr t x f => exact fieldAddr_ok o hE hi hf h hop
  case field t x f => exact field_ok o hE hi hf h hop
  case indexAddr t x ix => exact indexAddr_ok o hE hi hf h hop
  case index t x ix => exact index_ok o hE hi hf h hop
  case lookup t m k ok => exact lookup_ok o hE hi hf h hop
  case mapUpdate t m k x => exact mapUpdate_ok o hE hi hf h hop
  case mapEntry t m k => exact mapEntry_ok o hE hi hf h hop
  case entryStore t m s x => exact entryStore_ok o hE hi hf h hop
  case range t x => exact range_ok o hE hi hf h hop
  case next x isString =>
    cases isString
    · cases h
    · exact next_ok o hi hf h hop
  case extract x j => exact extract_ok o hi hf h hop
  case call c => exact call_ok o hE hi hf h hop
  case select => cases h
  all_goals cases h
end
end Go.Proofs.YtnenfgpjedddoaaGreat.AI
