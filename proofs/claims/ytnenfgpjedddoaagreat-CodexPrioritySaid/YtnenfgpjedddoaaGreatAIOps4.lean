/- Each operation does what the abstract interpreter says: binary operators. -/
import Derived.Test.YtnenfgpjedddoaaGreatAIOps3
set_option linter.unusedVariables false
set_option linter.unusedSectionVars false
set_option linter.unusedSimpArgs false
namespace Go.Proofs.YtnenfgpjedddoaaGreat.AI
open Go

variable {K : Type} [DecidableEq K] {T : K → Type} {E : Env T} {P : Program}
section
variable {g : Gh} {st : List (Ob T)} {w : World} {fr : Fr T} {a : Act} (o : Oper)

theorem intDiv_ok {op : BinOp} (k : IntKind) (x y : Int) (hy : (!(y == 0)) = true) (hop : op = .quo ∨ op = .rem) :
    (Op.intDiv op k x y).run P w = .ok (.int k (if op = .quo then k.wrap (x.tdiv y) else x.tmod y)) w := by
  have : ¬ y = 0 := by simpa using hy
  rcases hop with rfl | rfl <;> simp [Op.intDiv, this]

theorem eqIn_nil (d : Nat) {t : Nat} {e : TypeId} (hu : P.underlying t = some (.slice e)) (ad : Option Addr) (n c : Nat) :
    (Op.equalIn (d + 1) t (.slice ad n c) (.slice none 0 0)).run P w = .ok ad.isNone w ∧ (Op.equalIn (d + 1) t (.slice none 0 0) (.slice ad n c)).run P w = .ok ad.isNone w := by
  cases ad <;> exact ⟨by simp [Op.equalIn, run_underlying hu], by simp [Op.equalIn, run_underlying hu]⟩
theorem unsure_ok (hE : EnvOk P E) {t : Nat} {x y : V T} {p q : Value} {b : Bool} (hx : Rep E g x p) (hy : Rep E g y q) (h : unsure (E.ty t) x y = some b) :
    ∃ r, (binOp .eql t p q).run P w = .ok (.bool r) w ∧ (binOp .neq t p q).run P w = .ok (.bool !r) w ∧ (r = true → b = true) ∧ ¬ (p = .nilIface ∧ q = .nilIface) ∧ (∀ ps, p ≠ .agg ps) := by
  have hty := hE.ty t
  unfold unsure at h
  split at h
  · rename_i e0 e xs hs
    simp only [Option.some.injEq] at h
    subst h
    rw [hs] at hty
    obtain ⟨ad, cap, hf, rfl⟩ := hx.sl_inv
    rw [hy.nsl_inv]
    obtain ⟨he, _⟩ := eqIn_nil (P := P) (w := w) 9999 hty.1 ad xs.length cap
    refine ⟨ad.isNone, binOp_eql he rfl, binOp_neq he rfl, fun hn => ?_, by simp, by simp⟩
    cases ad with
    | none => cases hf; rfl
    | some ad => cases hn
  · rename_i e0 e xs hs
    simp only [Option.some.injEq] at h
    subst h
    rw [hs] at hty
    obtain ⟨ad, cap, hf, rfl⟩ := hy.sl_inv
    rw [hx.nsl_inv]
    obtain ⟨_, he⟩ := eqIn_nil (P := P) (w := w) 9999 hty.1 ad xs.length cap
    refine ⟨ad.isNone, binOp_eql he rfl, binOp_neq he rfl, fun hn => ?_, by simp, by simp⟩
    cases ad with
    | none => cases hf; rfl
    | some ad => cases hn
  · cases h

theorem binOp_ok (hE : EnvOk P E) {op : BinOp} {t u : Nat} {x y : Operand} (hi : Inv E g st w) (hf : FrOk E g fr a.tmps) {k : Ask T} (h : binOpA E fr o op t x y u = some k) (hop : o.op = .binOp op t x y u) :
    SoundAsk P E g st w ((execOp a.eval o).run P w) k := by
  unfold binOpA at h
  split at h
  case h_2 => cases h
  rename_i xv yv hx hy
  have hxv := evalO_ok hf hx
  have hyv := evalO_ok hf hy
  have run : ∀ {v : Value}, isEq op = false → (binOp op t (a.eval x) (a.eval y)).run P w = .ok v w → (execOp a.eval o).run P w = .ok (.value v) w :=
    fun hq hb => binOp_run o hop (fun h => by rw [hq] at h; cases h) hb
  unfold binV at h
  split at h
  · -- ==
    split at h
    · rename_i b hu
      simp only [Option.some.injEq] at h
      subst h
      obtain ⟨r, h1, _, h3, h4, h5⟩ := unsure_ok (w := w) hE hxv hyv hu
      have hr := binOp_run o hop (fun _ => ⟨fun ps _ hp _ => absurd hp (h5 ps), h4⟩) h1
      cases r
      · exact .inl (.here hi hr (.bool _ _))
      · exact .inr ⟨h3 rfl, .here hi hr (.bool _ _)⟩
    · cases he : eqW E t xv yv with
      | none => simp [he] at h
      | some b =>
        simp only [he, Option.map_some, Option.some.injEq] at h
        subst h
        obtain ⟨h1, _, h3, h4⟩ := eqW_run (w := w) hE hxv hyv he
        exact .here hi (binOp_run o hop (fun _ => ⟨h4, h3⟩) h1) (.bool _ _)
  · -- !=
    split at h
    · rename_i b hu
      simp only [Option.some.injEq] at h
      subst h
      obtain ⟨r, _, h2, h3, h4, h5⟩ := unsure_ok (w := w) hE hxv hyv hu
      have hr := binOp_run o hop (fun _ => ⟨fun ps _ hp _ => absurd hp (h5 ps), h4⟩) h2
      cases r
      · exact .inl (.here hi hr (.bool _ _))
      · exact .inr ⟨h3 rfl, .here hi hr (.bool _ _)⟩
    · cases he : eqW E t xv yv with
      | none => simp [he] at h
      | some b =>
        simp only [he, Option.map_some, Option.some.injEq] at h
        subst h
        obtain ⟨_, h2, h3, h4⟩ := eqW_run (w := w) hE hxv hyv he
        exact .here hi (binOp_run o hop (fun _ => ⟨h4, h3⟩) h2) (.bool _ _)
  · rename_i hn1 hn2
    have hq : isEq op = false := by cases op <;> first | rfl | exact absurd rfl hn1 | exact absurd rfl hn2
    split at h
    · rename_i k1 m k2 n
      have ex := hxv.int_inv
      have ey := hyv.int_inv
      split at h <;> first
        | (obtain ⟨hk, h'⟩ := ints_some h
           subst hk; subst h'
           first
           | (refine .here hi (run hq ?_) (.int _ _ _)
              rw [ex, ey]
              simp [binOp, Op.intArith, Op.intBits]
              done)
           | (refine .here hi (run hq ?_) (.bool _ _)
              rw [ex, ey]
              simp [binOp, Op.intCmp]
              done)
           | (intro hb
              refine .here hi (run hq ?_) (.int _ _ _)
              rw [ex, ey]
              have hb' : ¬ n = 0 := by simpa using hb
              simp [binOp, Op.intDiv, hb']
              done))
        | (simp only [Option.some.injEq] at h
           subst h
           intro hb
           refine .here hi (run hq ?_) (.int _ _ _)
           rw [ex, ey]
           have hb' : ¬ n < 0 := by simpa using hb
           simp [binOp, Op.shift, hb']
           done)
        | (cases h; done)
    · rename_i s r
      have ex := hxv.str_inv
      have ey := hyv.str_inv
      split at h <;> first
        | (simp only [Option.some.injEq] at h
           subst h
           first
           | (refine .here hi (run hq ?_) (.bool _ _)
              rw [ex, ey]
              simp [binOp, Op.stringOp, byteArray_toList]
              done)
           | (intro hb
              have hb' : s.length + r.length ≤ 9223372036854775807 := of_decide_eq_true hb
              refine .here hi (run hq ?_) (.str _ _)
              rw [ex, ey]
              have e1 : ((⟨⟨s⟩⟩ : ByteArray) ++ ⟨⟨r⟩⟩) = ⟨⟨s ++ r⟩⟩ := by
                apply ByteArray.ext
                apply Array.ext'
                simp [ByteArray.data_append]
              have e2 : (⟨⟨s⟩⟩ : ByteArray).size = s.length := rfl
              have e3 : (⟨⟨r⟩⟩ : ByteArray).size = r.length := rfl
              simp only [binOp, Op.stringOp, e1, e2, e3]
              rw [if_neg (by rw [show IntKind.i64.max = 9223372036854775807 by decide]; omega)]
              rfl))
        | (cases h; done)
    · cases h
end
end Go.Proofs.YtnenfgpjedddoaaGreat.AI
