/- Each operation does what the abstract interpreter says: addresses, loads, parts, lengths. -/
import Derived.Test.YtnenfgpjedddoaaGreatAIOps4
set_option linter.unusedVariables false
set_option linter.unusedSectionVars false
set_option linter.unusedSimpArgs false
namespace Go.Proofs.YtnenfgpjedddoaaGreat.AI
open Go

variable {K : Type} [DecidableEq K] {T : K → Type} {E : Env T} {P : Program}
section
variable {g : Gh} {st : List (Ob T)} {w : World} {fr : Fr T} {a : Act} (o : Oper)

theorem Fz.at (hi : Inv E g st w) {b off : Nat} {vs : List Value} (h : Fz g.G b off vs) : At w b off vs := fun k v hv => hi.froz _ _ _ (h k v hv)
theorem Fz.drop {G : Nat → Nat → Option Value} {b off : Nat} {vs : List Value} (h : Fz G b off vs) (n : Nat) : Fz G b (off + n) (vs.drop n) := fun k v hv => by
  rw [List.getElem?_drop] at hv
  have := h _ v hv
  rwa [← Nat.add_assoc] at this

theorem loadAt_run {t : Nat} {ad : Addr} {v : Value} (h : (loadVar t ad).run P w = .ok v w) : (Instr.loadAt t (.pointer (some ad))).run P w = .ok v w := by
  simp [Instr.loadAt, Instr.sureAddr, h]

theorem cut_known {t : Nat} {cs : List (V T)} {v : V T} (h : cut E t cs = some v) : (E.ty t).known = true := by
  unfold cut at h
  cases ht : E.ty t <;> rw [ht] at h <;> first | rfl | (cases h; done)

/-- An element of an owned array. -/
theorem arr_elem {e : K} {xs : List (T e)} {b n sz : Nat} (hE : EnvOk P E) (hi : Inv E g st w) (h : ObOk E g w (.arr e xs) (.arr b n sz)) {j : Nat} (hj : j < n) :
    ∃ vs, Fcs E g.G (E.enc e (xs.getD j (E.dflt e))) vs ∧ At w b (j * sz) vs := by
  obtain ⟨h1, h2, h3, vs, h4, h5, h6⟩ := h
  subst h1
  have hx : xs[j]? = some (xs.getD j (E.dflt e)) := by simp [List.getD, hj]
  refine ⟨_, h6 j _ hx, ?_⟩
  have := (at_cells_drop h4 (j * sz)).take sz
  exact this
theorem fro_elem {e : K} {xs : List (T e)} {b n sz : Nat} (hi : Inv E g st w) (h : ObOk E g w (.fro e xs) (.arr b n sz)) {j : Nat} (hj : j < n) :
    ∃ vs, Fcs E g.G (E.enc e (xs.getD j (E.dflt e))) vs ∧ At w b (j * sz) vs := by
  obtain ⟨h1, h2, h3, h4⟩ := h
  subst h1
  subst h2
  have hx : xs[j]? = some (xs.getD j (E.dflt e)) := by simp [List.getD, hj]
  cases h4 with
  | sle => exact absurd hj (by simp)
  | sl _ _ _ _ _ css hc hs hz =>
    have hz' := hz j _ hx
    rw [Nat.zero_add] at hz'
    exact ⟨_, hs j _ hx, hz'.at hi⟩

theorem load_ok (hE : EnvOk P E) {t : Nat} {x : Operand} (hi : Inv E g st w) (hf : FrOk E g fr a.tmps) {k : Ask T} (h : loadA E fr o t x = some k) (hop : o.op = .load t x) :
    SoundAsk P E g st w ((execOp a.eval o).run P w) k := by
  have fin : ∀ {ad : Addr} {v : V T} {y : Value}, a.eval x = .pointer (some ad) → (loadVar t ad).run P w = .ok y w → Rep E g v y → Gives E g w ((execOp a.eval o).run P w) st v := fun h1 h2 h3 =>
    .here hi (by simp [execOp, hop, h1, loadAt_run h2]) h3
  have main : ∀ {v : V T}, Rep E g v (a.eval x) → loadV E t v = some k → SoundAsk P E g st w ((execOp a.eval o).run P w) k := by
    intro v hv h
    unfold loadV at h
    split at h
    · rename_i cs
      cases hc : cut E t cs with
      | none => simp [hc] at h
      | some u =>
        simp only [hc, Option.map_some, Option.some.injEq] at h
        subst h
        obtain ⟨b, off, vs, h1, h2, h3⟩ := hv.adr_inv
        obtain ⟨y, h4, h5⟩ := loadVar_ok hE (w := w) hc (Fcs.reps h1) h1.one (h2.at hi)
        exact fin h3 h4 h5
    · rename_i i off
      simp only [Option.some.injEq] at h
      subst h
      intro ob u hob hk
      obtain ⟨b, h1, h2⟩ := hv.ptr_inv
      unfold loadBox at hk
      split at hk
      · rename_i t' cs
        split at hk
        · rename_i u' hc
          simp only [Option.some.injEq, Prod.mk.injEq, true_and] at hk
          subst hk
          obtain ⟨vs, h3, h4, h5, h6⟩ := hi.obs i _ _ hob h1
          obtain ⟨y, h7, h8⟩ := loadVar_ok hE (w := w) hc (h4.drop off) (h5.drop off) (at_cells_drop h3 off)
          exact fin h2 h7 h8
        · cases hk
      · cases hk
    · rename_i i j off
      simp only [Option.some.injEq] at h
      subst h
      intro ob u hob hk
      obtain ⟨b, n, sz, h1, hj, h2⟩ := hv.elt_inv
      have hok := hi.obs i _ _ hob h1
      unfold loadElt at hk
      split at hk
      · rename_i e xs
        split at hk
        · rename_i u' hc
          simp only [Option.some.injEq, Prod.mk.injEq, true_and] at hk
          subst hk
          obtain ⟨vs, h3, h4⟩ := arr_elem hE hi hok hj
          obtain ⟨y, h7, h8⟩ := loadVar_ok hE (w := w) hc (Fcs.reps (h3.drop off)) (h3.drop off).one (h4.drop off)
          exact fin h2 h7 h8
        · cases hk
      · rename_i e xs
        split at hk
        · rename_i u' hc
          simp only [Option.some.injEq, Prod.mk.injEq, true_and] at hk
          subst hk
          obtain ⟨vs, h3, h4⟩ := fro_elem hi hok hj
          obtain ⟨y, h7, h8⟩ := loadVar_ok hE (w := w) hc (Fcs.reps (h3.drop off)) (h3.drop off).one (h4.drop off)
          exact fin h2 h7 h8
        · cases hk
      · cases hk
    · cases h
  unfold loadA at h
  split at h
  · rename_i v hg
    refine main ?_ h
    unfold globA at hg
    split at hg
    · rename_i gl
      cases hgl : E.glob gl with
      | none => simp [hgl] at hg
      | some cs =>
        simp only [hgl, Option.map_some, Option.some.injEq] at hg
        subst hg
        obtain ⟨vs, h1, h2⟩ := hi.glob gl cs hgl
        exact .adr h1 h2
    · cases hg
  · cases hx : evalO fr x with
    | none => simp [hx] at h
    | some v => exact main (evalO_ok hf hx) (by simpa [hx] using h)

theorem fieldAddr_ok (hE : EnvOk P E) {t : Nat} {x : Operand} {f : Nat} (hi : Inv E g st w) (hf : FrOk E g fr a.tmps) {k : Ask T} (h : fieldAddrA E fr o t x f = some k) (hop : o.op = .fieldAddr t x f) :
    SoundAsk P E g st w ((execOp a.eval o).run P w) k := by
  unfold fieldAddrA at h
  split at h
  case h_2 => cases h
  rename_i fs hty
  have ht := hE.ty t
  rw [hty] at ht
  obtain ⟨⟨fields, hu, hfs, _⟩, _, _, _, hsz⟩ := ht
  have fin : ∀ {u off : Nat} {b off' : Nat} {v : V T}, fieldAt fs f = some (u, off) → a.eval x = .pointer (some ⟨b, off', none⟩) → Rep E g v (.pointer (some ⟨b, off' + off, none⟩)) →
      Gives E g w ((execOp a.eval o).run P w) st v := fun {u off b off' v} h1 h2 h3 => by
    unfold fieldAt at h1
    obtain ⟨hs, hpos⟩ := hsz (u, off) (List.mem_of_getElem? h1)
    obtain ⟨i, hinf, his⟩ := hs
    rw [hfs, List.getElem?_map] at h1
    cases hfl : fields.toList[f]? with
    | none => simp [hfl] at h1
    | some fl =>
      simp only [hfl, Option.map_some, Option.some.injEq, Prod.mk.injEq] at h1
      obtain ⟨rfl, rfl⟩ := h1
      have hfl' : fields[f]? = some fl := by simpa using hfl
      refine .here hi ?_ h3
      have hne : ¬ i.size = 0 := by rw [his]; exact Nat.ne_of_gt hpos
      have : (Instr.fieldAt t (a.eval x) f).run P w = .ok (.pointer (some ⟨b, off' + fl.offset, none⟩)) w := by
        rw [h2]
        simp [Instr.fieldAt, run_underlying hu, hfl', Instr.sureAddr, fieldPlace, run_sizeOf' hinf, hne, Addr.add_mk]
      simp [execOp, hop, this]
  split at h
  · rename_i u off i off' h1 hx
    simp only [Option.some.injEq] at h
    subst h
    obtain ⟨b, h2, h3⟩ := (evalO_ok hf hx).ptr_inv
    exact fin h1 h3 (.ptr h2)
  · rename_i u off cs h1 hx
    simp only [Option.some.injEq] at h
    subst h
    obtain ⟨b, off', vs, h2, h3, h4⟩ := (evalO_ok hf hx).adr_inv
    exact fin h1 h4 (.adr (h2.drop off) (h3.drop off))
  · rename_i u off i j off' h1 hx
    simp only [Option.some.injEq] at h
    subst h
    obtain ⟨b, n, sz, h2, hj, h3⟩ := (evalO_ok hf hx).elt_inv
    refine fin h1 h3 ?_
    rw [Nat.add_assoc]
    exact .elt h2 hj
  · cases h

theorem cut_part (hE : EnvOk P E) {t off : Nat} {cs : List (V T)} {vs : List Value} {v : V T} (hc : cut E t (cs.drop off) = some v) (hr : Reps E g cs vs) (h1 : One vs) :
    ∃ x, (part t ⟨vs⟩ off).run P w = .ok x w ∧ Rep E g v x := by
  have hk := cut_known hc
  have hl := hr.length
  have hr' := hr.drop off
  unfold cut at hc
  have agg : (E.ty t).agg = true → cutN (E.size t) (cs.drop off) = some v → ∃ x, (part t ⟨vs⟩ off).run P w = .ok x w ∧ Rep E g v x := fun hag hc => by
    unfold cutN at hc
    split at hc
    · rename_i hb
      simp only [Option.some.injEq] at hc
      subst hc
      have hb' := Nat.le_of_ble_eq_true (Bool.and_eq_true_iff.1 hb).1
      have hb2 : 0 < E.size t := Nat.le_of_ble_eq_true (Bool.and_eq_true_iff.1 hb).2
      rw [List.length_drop] at hb'
      by_cases hz : off ≤ vs.length
      · obtain ⟨p, h2, h3⟩ := part_ok (P := P) (w := w) hE (vs := vs) (o := off) hk (by omega)
        simp only [CellsOf, hag] at h3
        subst h3
        exact ⟨_, h2, .agg (hr'.take _) ((h1.drop off).take _)⟩
      · omega
    · cases hc
  have one : (E.ty t).agg = false → E.cts t = [t] → (cs.drop off).head? = some v → ∃ x, (part t ⟨vs⟩ off).run P w = .ok x w ∧ Rep E g v x := fun hag hct hc => by
    rw [List.head?_drop] at hc
    obtain ⟨y, h2, h3⟩ := hr.get hc
    have hlt : off < vs.length := (List.getElem?_eq_some_iff.1 h2).1
    have hs : E.size t = 1 := by simp [Env.size, hct]
    obtain ⟨p, h4, h5⟩ := part_ok (P := P) (w := w) hE (vs := vs) (o := off) hk (by omega)
    simp only [CellsOf, hag, hs] at h5
    rw [List.take_one, List.head?_drop, h2] at h5
    simp only [Option.toList_some, List.cons.injEq, and_true] at h5
    subst h5
    exact ⟨_, h4, h3⟩
  have hty := hE.ty t
  cases ht : E.ty t <;> simp only [ht] at hc hty hk
  case int => exact one (by rw [ht]; rfl) hty.2.2 hc
  case bool => exact one (by rw [ht]; rfl) hty.2.2 hc
  case str => exact one (by rw [ht]; rfl) hty.2.2 hc
  case slice => exact one (by rw [ht]; rfl) hty.2.2 hc
  case ptr => exact one (by rw [ht]; rfl) hty.2.2 hc
  case map => exact one (by rw [ht]; rfl) hty.2.2 hc
  case func => exact one (by rw [ht]; rfl) hty.2.2 hc
  case iface => exact one (by rw [ht]; rfl) hty.2.2 hc
  case struct => exact agg (by rw [ht]; rfl) hc
  case array => exact agg (by rw [ht]; rfl) hc
  case other => cases hk

theorem field_ok (hE : EnvOk P E) {t : Nat} {x : Operand} {f : Nat} (hi : Inv E g st w) (hf : FrOk E g fr a.tmps) {k : Ask T} (h : fieldA E fr o t x f = some k) (hop : o.op = .field t x f) :
    SoundAsk P E g st w ((execOp a.eval o).run P w) k := by
  unfold fieldA at h
  split at h
  case h_2 => cases h
  rename_i fs hty
  have ht := hE.ty t
  rw [hty] at ht
  obtain ⟨⟨fields, hu, hfs, _⟩, _⟩ := ht
  split at h
  · rename_i u off cs h1 hx
    cases hc : cut E u (cs.drop off) with
    | none => simp [hc] at h
    | some v =>
      simp only [hc, Option.map_some, Option.some.injEq] at h
      subst h
      obtain ⟨vs, h2, h3, h4⟩ := (evalO_ok hf hx).agg_inv
      unfold fieldAt at h1
      rw [hfs, List.getElem?_map] at h1
      cases hfl : fields.toList[f]? with
      | none => simp [hfl] at h1
      | some fl =>
        simp only [hfl, Option.map_some, Option.some.injEq, Prod.mk.injEq] at h1
        obtain ⟨rfl, rfl⟩ := h1
        have hfl' : fields[f]? = some fl := by simpa using hfl
        obtain ⟨y, h5, h6⟩ := cut_part (P := P) (w := w) hE hc h2 h3
        refine .here hi ?_ h6
        have : (Instr.field t (a.eval x) f).run P w = .ok y w := by
          rw [h4]
          simp [Instr.field, run_underlying hu, hfl', asAgg, h5]
        simp [execOp, hop, this]
  · cases h

theorem within_spec {i n : Int} (h : within i n = true) : 0 ≤ i ∧ i < n := by
  simpa [within] using h

theorem indexAddr_ok (hE : EnvOk P E) {t : Nat} {x ix : Operand} (hi : Inv E g st w) (hf : FrOk E g fr a.tmps) {k : Ask T} (h : indexAddrA E fr o t x ix = some k) (hop : o.op = .indexAddr t x ix) :
    SoundAsk P E g st w ((execOp a.eval o).run P w) k := by
  have ht := hE.ty t
  have fin : ∀ {v : V T} {y : Value}, (Instr.indexAt t (a.eval x) (a.eval ix)).run P w = .ok y w → Rep E g v y → Gives E g w ((execOp a.eval o).run P w) st v := fun h1 h2 =>
    .here hi (by simp [execOp, hop, h1]) h2
  have slc : ∀ {e0 : K} {b off n cap : Nat} {ki : IntKind} {i : Int}, P.underlying t = some (.slice (E.num e0)) → a.eval x = .slice (some ⟨b, off, none⟩) n cap → a.eval ix = .int ki i → 0 ≤ i → i < (n : Int) →
      (Instr.indexAt t (a.eval x) (a.eval ix)).run P w = .ok (.pointer (some ⟨b, off + i.toNat * E.size (E.num e0), none⟩)) w := fun {e0 b off n cap ki i} hu h1 h2 h3 h4 => by
    obtain ⟨inf, z, hinf, _, hs, _⟩ := hE.elem e0
    rw [h1, h2]
    simp [Instr.indexAt, asIntOf, run_underlying hu, h3, h4, run_sizeOf' hinf, hs, Addr.add_mk]
  unfold indexAddrA at h
  split at h
  · rename_i e0 e xs ow ki i hty hx hix
    rw [hty] at ht
    split at h
    · rename_i he
      have he' : e = e0 := of_decide_eq_true he
      subst he'
      simp only [Option.some.injEq] at h
      subst h
      intro hb
      obtain ⟨h1, h2⟩ := within_spec hb
      obtain ⟨ad, cap, h3, h4⟩ := (evalO_ok hf hx).sl_inv
      rw [h4] at h3
      have h5 := (evalO_ok hf hix).int_inv
      cases h3 with
      | sl0 => simp at h2; omega
      | sle => simp at h2; omega
      | sl _ _ b off _ css hc hs hz =>
        have hlt : i.toNat < xs.length := by omega
        have hx' : xs[i.toNat]? = some (xs.getD i.toNat (E.dflt e)) := by simp [List.getD, hlt]
        exact fin (slc ht.1 h4 h5 h1 h2) (.adr (hs _ _ hx') (hz _ _ hx'))
    · cases h
  · rename_i e0 ai ki i hty hx hix
    rw [hty] at ht
    simp only [Option.some.injEq] at h
    subst h
    intro ob v hob hk
    obtain ⟨b, n, sz, h1, h2⟩ := (evalO_ok hf hx).asl_inv
    have hok := hi.obs ai _ _ hob h1
    have h5 := (evalO_ok hf hix).int_inv
    have done : ∀ {e : K} {xs : List (T e)}, e = e0 → n = xs.length → sz = E.size (E.num e) → within i (xs.length : Int) = true → v = .elt ai i.toNat 0 → Gives E g w ((execOp a.eval o).run P w) st v := fun {e xs} he hn hsz hw hv => by
      subst he; subst hn; subst hsz; subst hv
      obtain ⟨h6, h7⟩ := within_spec hw
      refine fin (slc ht.1 h2 h5 h6 h7) ?_
      rw [Nat.zero_add]
      exact .elt h1 (by omega)
    unfold eltK at hk
    split at hk
    · rename_i e xs
      split at hk
      · rename_i he
        simp only [Option.some.injEq, Prod.mk.injEq] at hk
        obtain ⟨hw, hv⟩ := hk
        exact done (of_decide_eq_true he) hok.1 hok.2.1 hw hv.symm
      · cases hk
    · rename_i e xs
      split at hk
      · rename_i he
        simp only [Option.some.injEq, Prod.mk.injEq] at hk
        obtain ⟨hw, hv⟩ := hk
        exact done (of_decide_eq_true he) hok.1 hok.2.1 hw hv.symm
      · cases hk
    · cases hk
  · rename_i n e b off ki i hty hx hix
    rw [hty] at ht
    obtain ⟨hu, _, ⟨inf, hinf, hs⟩⟩ := ht
    simp only [Option.some.injEq] at h
    subst h
    intro hb
    obtain ⟨h1, h2⟩ := within_spec hb
    obtain ⟨bl, h3, h4⟩ := (evalO_ok hf hx).ptr_inv
    have h5 := (evalO_ok hf hix).int_inv
    refine fin ?_ (.ptr h3)
    rw [h4, h5]
    simp [Instr.indexAt, asIntOf, run_underlying hu, Instr.sureAddr, h1, h2, run_sizeOf' hinf, hs, Addr.add_mk]
  · rename_i n e cs ki i hty hx hix
    rw [hty] at ht
    obtain ⟨hu, _, ⟨inf, hinf, hs⟩⟩ := ht
    simp only [Option.some.injEq] at h
    subst h
    intro hb
    obtain ⟨h1, h2⟩ := within_spec hb
    obtain ⟨bl, off, vs, h3, h6, h4⟩ := (evalO_ok hf hx).adr_inv
    have h5 := (evalO_ok hf hix).int_inv
    refine fin ?_ (.adr (h3.drop _) (h6.drop _))
    rw [h4, h5]
    simp [Instr.indexAt, asIntOf, run_underlying hu, Instr.sureAddr, h1, h2, run_sizeOf' hinf, hs, Addr.add_mk]
  · cases h
end
end Go.Proofs.YtnenfgpjedddoaaGreat.AI
