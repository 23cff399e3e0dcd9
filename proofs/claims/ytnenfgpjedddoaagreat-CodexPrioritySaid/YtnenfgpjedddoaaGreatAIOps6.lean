/- Each operation does what the abstract interpreter says: indexes, slices, lengths, the greatest and the least. -/
import Derived.Test.YtnenfgpjedddoaaGreatAIOps5
set_option linter.unusedVariables false
set_option linter.unusedSectionVars false
set_option linter.unusedSimpArgs false
namespace Go.Proofs.YtnenfgpjedddoaaGreat.AI
open Go

variable {K : Type} [DecidableEq K] {T : K → Type} {E : Env T} {P : Program}
section
variable {g : Gh} {st : List (Ob T)} {w : World} {fr : Fr T} {a : Act} (o : Oper)

theorem index_ok (hE : EnvOk P E) {t : Nat} {x ix : Operand} (hi : Inv E g st w) (hf : FrOk E g fr a.tmps) {k : Ask T} (h : indexA E fr o t x ix = some k) (hop : o.op = .index t x ix) :
    SoundAsk P E g st w ((execOp a.eval o).run P w) k := by
  have ht := hE.ty t
  unfold indexA at h
  split at h
  · rename_i s ki i hty hx hix
    rw [hty] at ht
    simp only [Option.some.injEq] at h
    subst h
    intro hb
    obtain ⟨h1, h2⟩ := within_spec hb
    have h3 := (evalO_ok hf hx).str_inv
    have h4 := (evalO_ok hf hix).int_inv
    have hlt : i.toNat < s.length := by omega
    have : (Instr.index t (a.eval x) (a.eval ix)).run P w = .ok (.int .u8 (s.getD i.toNat 0).toNat) w := by
      rw [h3, h4]
      have e1 : ((⟨⟨s⟩⟩ : ByteArray)[i.toNat]? : Option UInt8) = some (s.getD i.toNat 0) := by
        have hsz : i.toNat < (⟨⟨s⟩⟩ : ByteArray).size := hlt
        rw [getElem?_pos (⟨⟨s⟩⟩ : ByteArray) i.toNat hsz]
        congr 1
        have : s.getD i.toNat 0 = s[i.toNat] := by simp [List.getD, hlt]
        rw [this]
        rfl
      simp [Instr.index, asIntOf, run_underlying ht.1, h1, e1]
    exact .here hi (by simp [execOp, hop, this]) (.int _ _ _)
  · rename_i n e cs ki i hty hx hix
    rw [hty] at ht
    obtain ⟨hu, _, ⟨inf, hinf, hs⟩⟩ := ht
    split at h
    · rename_i v hc
      simp only [Option.some.injEq] at h
      subst h
      intro hb
      obtain ⟨h1, h2⟩ := within_spec hb
      obtain ⟨vs, h3, h4, h5⟩ := (evalO_ok hf hx).agg_inv
      have h6 := (evalO_ok hf hix).int_inv
      obtain ⟨y, h7, h8⟩ := cut_part (P := P) (w := w) hE hc h3 h4
      have : (Instr.index t (a.eval x) (a.eval ix)).run P w = .ok y w := by
        rw [h5, h6]
        simp [Instr.index, asIntOf, run_underlying hu, h1, h2, run_sizeOf' hinf, hs, h7]
      exact .here hi (by simp [execOp, hop, this]) h8
    · cases h
  · cases h

theorem Fc.slice {G : Nat → Nat → Option Value} {e : K} {xs : List (T e)} {ad : Option Addr} {n cap : Nat} (h : Fc E G (.sl e xs .no) (.slice ad n cap)) {l hh m : Nat} (h1 : l ≤ hh) (h2 : hh ≤ xs.length) (h3 : hh ≤ m) (h4 : m ≤ cap) :
    Fc E G (.sl e ((xs.take hh).drop l) .no) (.slice (if m = l then ad else ad.map (·.add (l * E.size (E.num e)))) (hh - l) (m - l)) := by
  have hlen : ((xs.take hh).drop l).length = hh - l := by simp; omega
  cases h with
  | sl0 =>
    simp only [List.length_nil, Nat.le_zero_eq] at h2
    subst h2
    have : l = 0 := by omega
    subst this
    have : m = 0 := by omega
    subst this
    exact .sl0 e
  | sle _ a =>
    simp only [List.length_nil, Nat.le_zero_eq] at h2
    subst h2
    have : l = 0 := by omega
    subst this
    have e1 : (if m = 0 then some a else (some a).map (·.add (0 * E.size (E.num e)))) = some a := by
      split
      · rfl
      · simp [Addr.add]
    rw [e1]
    exact .sle e a _
  | sl _ _ b off _ css hc hs hz =>
    rw [← hlen]
    split
    · rename_i hml
      have hnil : (xs.take hh).drop l = [] := List.eq_nil_of_length_eq_zero (by omega)
      rw [hnil]
      exact .sl e [] b off _ css (by simp) (fun i x hx => by simp at hx) (fun i x hx => by simp at hx)
    · simp only [Option.map_some, Addr.add_mk]
      refine .sl e _ b _ _ (fun i => css (l + i)) (by omega) (fun i x hx => ?_) (fun i x hx => ?_)
      · have hx' : xs[l + i]? = some x := by
          rw [List.getElem?_drop, List.getElem?_take] at hx
          split at hx
          · exact hx
          · cases hx
        exact hs _ _ hx'
      · have hx' : xs[l + i]? = some x := by
          rw [List.getElem?_drop, List.getElem?_take] at hx
          split at hx
          · exact hx
          · cases hx
        have := hz _ _ hx'
        rwa [Nat.add_mul, ← Nat.add_assoc] at this

theorem bound_ok {d : Int} {x : Option Operand} {n : Int} (hf : FrOk E g fr a.tmps) (h : bound fr d x = some n) :
    (x = none ∧ n = d) ∨ ∃ y k, x = some y ∧ a.eval y = .int k n := by
  unfold bound at h
  split at h
  · simp only [Option.some.injEq] at h
    exact .inl ⟨rfl, h.symm⟩
  · rename_i y
    cases hy : evalO fr y with
    | none => simp [hy] at h
    | some v =>
      simp only [hy, Option.bind_some] at h
      unfold intOf at h
      split at h
      · simp only [Option.some.injEq] at h
        subst h
        exact .inr ⟨y, _, rfl, (evalO_ok hf hy).int_inv⟩
      · cases h
theorem sliceBound_ok {k : IntKind} {n : Int} {y : Nat} {c : BoundsCode} (h1 : 0 ≤ n) (h2 : n ≤ y) : (Instr.sliceBound (.int k n) y c).run P w = .ok n.toNat w := by
  simp [Instr.sliceBound, asIntOf, h1, h2]
/-- The bounds of a slice, without a third one. -/
theorem sliceBounds_ok {isS : Bool} {len cap : Nat} {lo hi : Option Operand} {l h : Int} (hf : FrOk E g fr a.tmps) (hl : bound fr 0 lo = some l) (hh : bound fr (len : Int) hi = some h) (h1 : 0 ≤ l) (h2 : l ≤ h) (h3 : h ≤ cap) :
    (Instr.sliceBounds isS len cap (lo.map a.eval) (hi.map a.eval) none).run P w = .ok (l.toNat, h.toNat, cap) w := by
  have hh0 : 0 ≤ h := by omega
  have e2 : (h.toNat : Int) = h := Int.toNat_of_nonneg hh0
  rcases bound_ok hf hl with ⟨rfl, rfl⟩ | ⟨y, k, rfl, hy⟩ <;> rcases bound_ok hf hh with ⟨rfl, rfl⟩ | ⟨z, k', rfl, hz⟩
  · simp [Instr.sliceBounds]
  · simp [Instr.sliceBounds, hz, sliceBound_ok hh0 h3]
  · simp [Instr.sliceBounds, hy, sliceBound_ok (P := P) (w := w) (y := len) (c := .sliceB) h1 h2]
  · simp [Instr.sliceBounds, hy, hz, sliceBound_ok hh0 h3, sliceBound_ok (P := P) (w := w) (y := h.toNat) (c := .sliceB) h1 (by omega)]
theorem sliceBounds3_ok {len cap : Nat} {lo hi : Option Operand} {mx : Operand} {l h m : Int} (hf : FrOk E g fr a.tmps) (hl : bound fr 0 lo = some l) (hh : bound fr (len : Int) hi = some h) (hm : bound fr 0 (some mx) = some m)
    (h1 : 0 ≤ l) (h2 : l ≤ h) (h3 : h ≤ m) (h4 : m ≤ cap) (hs : hi.isSome = true) :
    (Instr.sliceBounds true len cap (lo.map a.eval) (hi.map a.eval) (some (a.eval mx))).run P w = .ok (l.toNat, h.toNat, m.toNat) w := by
  have hh0 : 0 ≤ h := by omega
  have hm0 : 0 ≤ m := by omega
  have e2 : (h.toNat : Int) = h := Int.toNat_of_nonneg hh0
  have e3 : (m.toNat : Int) = m := Int.toNat_of_nonneg hm0
  rcases bound_ok hf hm with ⟨hc, _⟩ | ⟨q, k'', hq, hqv⟩
  · cases hc
  cases hq
  rcases bound_ok hf hh with ⟨rfl, rfl⟩ | ⟨z, k', rfl, hz⟩
  · cases hs
  rcases bound_ok hf hl with ⟨rfl, rfl⟩ | ⟨y, k, rfl, hy⟩
  · simp [Instr.sliceBounds, hz, hqv, sliceBound_ok (P := P) (w := w) (y := cap) (c := .slice3Acap) hm0 h4, sliceBound_ok (P := P) (w := w) (y := m.toNat) (c := .slice3B) hh0 (by omega)]
  · simp [Instr.sliceBounds, hy, hz, hqv, sliceBound_ok (P := P) (w := w) (y := cap) (c := .slice3Acap) hm0 h4, sliceBound_ok (P := P) (w := w) (y := m.toNat) (c := .slice3B) hh0 (by omega),
      sliceBound_ok (P := P) (w := w) (y := h.toNat) (c := .slice3C) h1 (by omega)]

theorem byteArray_extract (s : List UInt8) (l h : Nat) : (⟨⟨s⟩⟩ : ByteArray).extract l h = ⟨⟨(s.take h).drop l⟩⟩ := by
  apply ByteArray.ext
  rw [ByteArray.data_extract]
  apply Array.ext'
  simp [List.drop_take]

theorem Fc.len {G : Nat → Nat → Option Value} {e : K} {xs : List (T e)} {ad : Option Addr} {n cap : Nat} (h : Fc E G (.sl e xs .no) (.slice ad n cap)) : n = xs.length ∧ n ≤ cap := by
  cases h with
  | sl0 => exact ⟨rfl, Nat.le_refl _⟩
  | sle => exact ⟨rfl, Nat.zero_le _⟩
  | sl _ _ _ _ _ _ hc => exact ⟨rfl, hc⟩

theorem slice_ok (hE : EnvOk P E) {t : Nat} {x : Operand} {lo hi mx : Option Operand} (hin : Inv E g st w) (hf : FrOk E g fr a.tmps) {k : Ask T} (h : sliceA E fr o t x lo hi mx = some k) (hop : o.op = .slice t x lo hi mx) :
    SoundAsk P E g st w ((execOp a.eval o).run P w) k := by
  have ht := hE.ty t
  have fin : ∀ {v : V T} {y : Value}, (Instr.sliceAt t (a.eval x) (lo.map a.eval) (hi.map a.eval) (mx.map a.eval)).run P w = .ok y w → Rep E g v y → Gives E g w ((execOp a.eval o).run P w) st v := fun h1 h2 =>
    .here hin (by simp [execOp, hop, h1]) h2
  unfold sliceA at h
  split at h
  · rename_i s hty hx
    rw [hty] at ht
    split at h
    · rename_i l hh hl hhh
      simp only [Option.some.injEq] at h
      subst h
      intro hb
      simp only [Bool.and_eq_true, decide_eq_true_eq] at hb
      obtain ⟨⟨h1, h2⟩, h3⟩ := hb
      have h4 := (evalO_ok hf hx).str_inv
      refine fin ?_ (.str _ _)
      have hbd := sliceBounds_ok (P := P) (w := w) (isS := false) (len := s.length) (cap := s.length) hf hl hhh h1 h2 h3
      have hsz : (⟨⟨s⟩⟩ : ByteArray).size = s.length := rfl
      rw [h4]
      simp [Instr.sliceAt, run_underlying ht.1, Instr.slice, hsz, hbd, byteArray_extract]
    · cases h
  · rename_i e0 e xs ow hty hx
    rw [hty] at ht
    split at h
    · rename_i l hh hl hhh
      split at h
      · cases h
      rename_i he
      have he' : e = e0 := of_decide_eq_true he
      subst he'
      simp only [Option.some.injEq] at h
      subst h
      intro hb
      simp only [Bool.and_eq_true, decide_eq_true_eq] at hb
      obtain ⟨⟨h1, h2⟩, h3⟩ := hb
      obtain ⟨ad, cap, h4, h5⟩ := (evalO_ok hf hx).sl_inv
      rw [h5] at h4
      obtain ⟨_, hcap⟩ := h4.len
      obtain ⟨inf, z, hinf, _, hs, _⟩ := hE.elem e
      have hbd := sliceBounds_ok (P := P) (w := w) (isS := true) (len := xs.length) (cap := cap) hf hl hhh h1 h2 (by omega)
      refine fin ?_ (.fc (h4.slice (l := l.toNat) (hh := hh.toNat) (m := cap) (by omega) (by omega) (by omega) (Nat.le_refl _)))
      rw [h5]
      simp [Instr.sliceAt, run_underlying ht.1, Instr.slice, hbd, run_sizeOf' hinf, hs]
    · cases h
  · rename_i e0 e xs ow mx' hty hx
    rw [hty] at ht
    split at h
    · rename_i l hh m hl hhh hm
      split at h
      · cases h
      rename_i he
      simp only [Bool.and_eq_true, decide_eq_true_eq] at he
      obtain ⟨he', hsome⟩ := he
      subst he'
      simp only [Option.some.injEq] at h
      subst h
      intro hb
      simp only [Bool.and_eq_true, decide_eq_true_eq] at hb
      obtain ⟨⟨⟨h1, h2⟩, h3⟩, h3'⟩ := hb
      subst h3
      obtain ⟨ad, cap, h4, h5⟩ := (evalO_ok hf hx).sl_inv
      rw [h5] at h4
      obtain ⟨_, hcap⟩ := h4.len
      obtain ⟨inf, z, hinf, _, hs, _⟩ := hE.elem e
      have hbd := sliceBounds3_ok (P := P) (w := w) (len := xs.length) (cap := cap) hf hl hhh hm h1 h2 (Int.le_refl _) (by omega) hsome
      refine fin ?_ (.slfull (h4.slice (l := l.toNat) (hh := hh.toNat) (m := hh.toNat) (by omega) (by omega) (Nat.le_refl _) (by omega)))
      rw [h5]
      simp [Instr.sliceAt, run_underlying ht.1, Instr.slice, hbd, run_sizeOf' hinf, hs]
    · cases h
  · cases h
end
end Go.Proofs.YtnenfgpjedddoaaGreat.AI
