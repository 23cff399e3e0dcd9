/- Each operation does what the abstract interpreter says: literals of structs and lists, new maps and arrays, iterators. -/
import Derived.Test.YtnenfgpjedddoaaGreatAIOps9
set_option linter.unusedVariables false
set_option linter.unusedSectionVars false
set_option linter.unusedSimpArgs false
namespace Go.Proofs.YtnenfgpjedddoaaGreat.AI
open Go

variable {K : Type} [DecidableEq K] {T : K → Type} {E : Env T} {P : Program}
section
variable {g : Gh} {st : List (Ob T)} {w : World} {fr : Fr T} {a : Act} (o : Oper)

theorem fold_sets : ∀ (vs : List Value) (k off : Nat) (cs : List Value), off + k + vs.length ≤ cs.length →
    ((vs.zipIdx k).foldl (fun (c : Array Value) (p : Value × Nat) => c.setIfInBounds (off + p.2) p.1) ⟨cs⟩) = ⟨AI.spliced cs (off + k) vs⟩
  | [], k, off, cs, h => by simp [AI.spliced]
  | v :: vs, k, off, cs, h => by
    simp only [List.length_cons] at h
    rw [List.zipIdx_cons, List.foldl_cons]
    have e1 : (⟨cs⟩ : Array Value).setIfInBounds (off + k) v = ⟨cs.set (off + k) v⟩ := by
      apply Array.ext'
      simp
    show (List.foldl _ ((⟨cs⟩ : Array Value).setIfInBounds (off + k) v) _) = _
    rw [e1, fold_sets vs (k + 1) off _ (by simp; omega), ← Nat.add_assoc, spliced_cons (by omega)]
/-- One part of a literal. -/
theorem fill_cons {place : Nat → Option (Nat × Nat)} {cs : List Value} {i off n : Nat} {v : Value} {rest : List (Nat × Value)} (hp : place i = some (off, n)) (hn : v.cells.size = n) (hl : off + n ≤ cs.length) :
    Instr.fill place ⟨cs⟩ ((i, v) :: rest) = Instr.fill place ⟨AI.spliced cs off v.cells.toList⟩ rest := by
  have hsz : (⟨cs⟩ : Array Value).size = cs.length := rfl
  have hf : v.cells.zipIdx.foldl (fun (c : Array Value) (p : Value × Nat) => c.setIfInBounds (off + p.2) p.1) ⟨cs⟩ = ⟨AI.spliced cs off v.cells.toList⟩ := by
    rw [← Array.foldl_toList, Array.toList_zipIdx]
    have := fold_sets v.cells.toList 0 off cs (by rw [Array.length_toList]; omega)
    simpa using this
  have hc : (v.cells.size ≠ n || off + v.cells.size > (⟨cs⟩ : Array Value).size) = false := by
    rw [hsz, hn]
    simp
    omega
  simp only [Instr.fill, hp]
  rw [if_neg (by rw [Bool.not_eq_true]; exact hc)]
  exact congrArg (fun c => Instr.fill place c rest) hf

/-- The parts of a literal, evaluated. -/
inductive Parts (E : Env T) (g : Gh) : List (Nat × V T) → List (Nat × Value) → Prop where
  | nil : Parts E g [] []
  | cons {i v x ps qs} (h : Rep E g v x) (hs : Parts E g ps qs) : Parts E g ((i, v) :: ps) ((i, x) :: qs)
theorem partsV_ok (hf : FrOk E g fr a.tmps) (ft : Nat → Nat) : ∀ (l : List (Nat × Operand)) (ps : List (Nat × V T)), partsV E fr ft l = some ps → Parts E g ps (l.map fun p => (p.1, a.eval p.2)) := by
  intro l
  induction l with
  | nil => intro ps h; simp only [partsV, Option.some.injEq] at h; subst h; exact .nil
  | cons p l ih =>
    obtain ⟨i, x⟩ := p
    intro ps h
    simp only [partsV] at h
    split at h
    · rename_i v vs h1 h2
      simp only [Option.some.injEq] at h
      subst h
      exact .cons ((evalO_ok hf h1).coerce _) (ih _ h2)
    · cases h
theorem fillC_ok {pl pl' : Nat → Option (Nat × Nat)} (hpl : ∀ i q, pl i = some q → pl' i = some q) : ∀ (ps : List (Nat × V T)) (qs : List (Nat × Value)) (cs cs' : List (V T)) (vs : List Value),
    fillC pl cs ps = some cs' → Parts E g ps qs → Reps E g cs vs → ∃ vs', Instr.fill pl' ⟨vs⟩ qs = some ⟨vs'⟩ ∧ Reps E g cs' vs' := by
  intro ps
  induction ps with
  | nil =>
    intro qs cs cs' vs h hp hr
    cases hp
    simp only [fillC, Option.some.injEq] at h
    subst h
    exact ⟨vs, rfl, hr⟩
  | cons p ps ih =>
    obtain ⟨i, v⟩ := p
    intro qs cs cs' vs h hp hr
    cases hp with
    | @cons _ _ x _ qs hv hs =>
      simp only [fillC] at h
      split at h
      · cases h
      · rename_i off n hpi
        split at h
        · rename_i hn
          have hn' := Nat.eq_of_beq_eq_true hn
          cases hsp : splice cs off v.cells with
          | none => simp [hsp] at h
          | some cs1 =>
            simp only [hsp, Option.bind_some] at h
            obtain ⟨hl, rfl⟩ := splice_spec hsp
            have hvl : v.cells.length = x.cells.size := by rw [hv.cells.length]; exact Array.length_toList
            have hcl := hr.length
            obtain ⟨vs', h1, h2⟩ := ih qs _ cs' _ h hs (hr.spliced hv.cells)
            refine ⟨vs', ?_, h2⟩
            rw [fill_cons (hpl _ _ hpi) (by omega) (by omega)]
            exact h1
        · cases h

theorem mapM_list {α β : Type} {f : α → Sem β} {h : α → β} : ∀ (l : List α), (∀ x ∈ l, (f x).run P w = .ok (h x) w) → (l.mapM f).run P w = .ok (l.map h) w
  | [], _ => by simp [List.mapM_nil]
  | x :: l, hx => by
    have h1 := hx x (List.mem_cons_self ..)
    have h2 := mapM_list l fun y hy => hx y (List.mem_cons_of_mem _ hy)
    simp [List.mapM_cons, h1, h2]
theorem zero_cells {t : Nat} {z : Value} {vs : List Value} (h : CellsOf E t z vs) (h1 : One vs) : z.cells.toList = vs := by
  unfold CellsOf at h
  split at h
  · subst h; rfl
  · subst h
    have := h1 z (by simp)
    cases z <;> first | rfl | (cases this; done)
theorem build_ok (hE : EnvOk P E) {t : Nat} {parts : Array (Nat × Operand)} (hi : Inv E g st w) (hf : FrOk E g fr a.tmps) {k : Ask T} (h : buildA E fr o t parts = some k) (hop : o.op = .build t parts) :
    SoundAsk P E g st w ((execOp a.eval o).run P w) k := by
  have ht := hE.ty t
  have hparts : (parts.map fun p => (p.1, a.eval p.2)).toList = parts.toList.map fun p => (p.1, a.eval p.2) := by simp
  have fin : ∀ {cs : List (V T)} {vs : List Value}, aggL cs = some k → Reps E g cs vs → (Instr.build t (parts.map fun p => (p.1, a.eval p.2))).run P w = .ok (.agg ⟨vs⟩) w → SoundAsk P E g st w ((execOp a.eval o).run P w) k := fun h1 h2 h3 => by
    unfold aggL at h1
    split at h1
    · rename_i hl
      simp only [Option.some.injEq] at h1
      subst h1
      exact .here hi (by simp [execOp, hop, h3]) (.agg h2 (h2.one hl))
    · cases h1
  unfold buildA at h
  split at h
  · rename_i fs hty
    rw [hty] at ht
    obtain ⟨⟨fields, hu, hfs, _⟩, _, _, _, hsz⟩ := ht
    split at h
    · rename_i zs ps hz hp
      cases hfill : fillC (fun i => (fieldAt fs i).map fun p => (p.2, E.size p.1)) zs ps with
      | none => simp [hfill] at h
      | some cs =>
        simp only [hfill, Option.bind_some] at h
        obtain ⟨inf, z, vs, h1, h2, h3, h4, _, h6⟩ := hE.zero t zs hz
        have hzc := zero_cells h3 h4
        have hpl : (fields.mapM fun f => (do pure (f.offset, ← sizeOf f.type) : Sem (Nat × Nat))).run P w = .ok (fields.map fun f => (f.offset, E.size f.type)) w := by
          rw [Array.mapM_eq_mapM_toList]
          have := mapM_list (P := P) (w := w) (f := fun f : Field => (do pure (f.offset, ← sizeOf f.type) : Sem (Nat × Nat))) (h := fun f => (f.offset, E.size f.type)) fields.toList (fun f hf => by
            obtain ⟨⟨i, hi1, hi2⟩, _⟩ := hsz (f.type, f.offset) (by rw [hfs]; exact List.mem_map.2 ⟨f, hf, rfl⟩)
            simp [run_sizeOf' hi1, hi2])
          rw [Sem.run_map, this]
          show Result.ok _ w = _
          congr 1
          apply Array.ext'
          simp
        obtain ⟨vs', h7, h8⟩ := fillC_ok (g := g) (pl' := fun i => (fields.map fun f => (f.offset, E.size f.type))[i]?) (fun i q hq => by
          unfold fieldAt at hq
          rw [hfs, List.getElem?_map] at hq
          cases hfl : fields.toList[i]? with
          | none => simp [hfl] at hq
          | some fl =>
            have hfl' : fields[i]? = some fl := by simpa using hfl
            simp only [hfl, Option.map_some, Option.some.injEq] at hq
            subst hq
            simp [hfl']) ps _ zs cs vs hfill (partsV_ok hf _ _ _ hp) (h6 g)
        refine fin h h8 ?_
        have hzz : (⟨vs⟩ : Array Value) = z.cells := by rw [← hzc]
        simp only [Instr.build, Sem.run_bind, zeroValue, typeInfo, run_program, Result.andThen_ok, h1, h2, Sem.run_pure, run_underlying hu, hpl, hparts]
        rw [← hzz, h7]
        rfl
    · cases h
  · rename_i n e hty
    rw [hty] at ht
    obtain ⟨hu, _, ⟨ie, hie, hse⟩⟩ := ht
    split at h
    · rename_i zs ps hz hp
      cases hfill : fillC (fun i => some (i * E.size e, E.size e)) zs ps with
      | none => simp [hfill] at h
      | some cs =>
        simp only [hfill, Option.bind_some] at h
        obtain ⟨inf, z, vs, h1, h2, h3, h4, _, h6⟩ := hE.zero t zs hz
        have hzc := zero_cells h3 h4
        obtain ⟨vs', h7, h8⟩ := fillC_ok (g := g) (pl' := fun i => some (i * ie.size, ie.size)) (fun i q hq => by rw [hse]; exact hq) ps _ zs cs vs hfill (partsV_ok hf _ _ _ hp) (h6 g)
        refine fin h h8 ?_
        have hzz : (⟨vs⟩ : Array Value) = z.cells := by rw [← hzc]
        simp only [Instr.build, Sem.run_bind, zeroValue, typeInfo, run_program, Result.andThen_ok, h1, h2, Sem.run_pure, run_underlying hu, run_sizeOf' hie, hparts]
        rw [← hzz, h7]
        rfl
    · cases h
  · cases h

theorem Elems.set (hE : EnvOk P E) {G : Nat → Nat → Option Value} {e : K} {xs : List (T e)} {cs us : List Value} {j : Nat} {z : T e} (h : Elems E G e xs cs) (hj : j < xs.length) (hz : Fcs E G (E.enc e z) us) :
    Elems E G e (xs.set j z) (AI.spliced cs (j * E.size (E.num e)) us) := by
  have hul : us.length = E.size (E.num e) := by rw [← hz.length, hE.encLen]
  have hmul : j * E.size (E.num e) + E.size (E.num e) ≤ xs.length * E.size (E.num e) := by
    have := Nat.mul_le_mul_right (E.size (E.num e)) (show j + 1 ≤ xs.length by omega)
    rwa [Nat.add_mul, Nat.one_mul] at this
  have hlen := h.len
  refine ⟨by rw [spliced_length (by omega), List.length_set]; exact hlen, fun m x hm => ?_⟩
  rw [List.getElem?_set] at hm
  split at hm
  · rename_i hjm
    subst hjm
    have hzx : z = x := by simpa [hj] using hm
    subst hzx
    have := spliced_in (c := cs) (us := us) (p := j * E.size (E.num e)) (off := 0) (n := E.size (E.num e)) (by omega) (by omega)
    rw [Nat.add_zero] at this
    rw [this]
    have hl2 : ((cs.drop (j * E.size (E.num e))).take (E.size (E.num e))).length = E.size (E.num e) := by simp; omega
    have : AI.spliced ((cs.drop (j * E.size (E.num e))).take (E.size (E.num e))) 0 us = us := by
      unfold AI.spliced
      rw [List.take_zero, List.nil_append, List.drop_eq_nil_of_le (by omega), List.append_nil]
    rw [this]
    exact hz
  · rename_i hjm
    have hml : m < xs.length := (List.getElem?_eq_some_iff.1 hm).1
    rw [spliced_out (by omega)]
    · exact h.el m x hm
    · rcases Nat.lt_or_gt_of_ne hjm with hlt | hgt
      · right
        have := Nat.mul_le_mul_right (E.size (E.num e)) (show j + 1 ≤ m by omega)
        rw [Nat.add_mul, Nat.one_mul] at this
        omega
      · left
        have := Nat.mul_le_mul_right (E.size (E.num e)) (show m + 1 ≤ j by omega)
        rw [Nat.add_mul, Nat.one_mul] at this
        omega
/-- Zero elements. -/
theorem Elems.zeros {G : Nat → Nat → Option Value} {e : K} {z : T e} {zs : List Value} (n : Nat) (hz : Fcs E G (E.enc e z) zs) (hl : zs.length = E.size (E.num e)) (h0 : 0 < E.size (E.num e)) :
    Elems E G e (List.replicate n z) ((List.range (n * E.size (E.num e))).map fun i => zs.getD (i % E.size (E.num e)) undef) := by
  refine ⟨by simp, fun j x hx => ?_⟩
  rw [List.getElem?_replicate] at hx
  split at hx
  · rename_i hj
    simp only [Option.some.injEq] at hx
    subst hx
    have hmul : j * E.size (E.num e) + E.size (E.num e) ≤ n * E.size (E.num e) := by
      have := Nat.mul_le_mul_right (E.size (E.num e)) (show j + 1 ≤ n by omega)
      rwa [Nat.add_mul, Nat.one_mul] at this
    have : (((List.range (n * E.size (E.num e))).map fun i => zs.getD (i % E.size (E.num e)) undef).drop (j * E.size (E.num e))).take (E.size (E.num e)) = zs := by
      apply List.ext_getElem?
      intro k
      rw [List.getElem?_take, List.getElem?_drop, List.getElem?_map]
      by_cases hk : k < E.size (E.num e)
      · rw [if_pos hk, List.getElem?_range (by omega)]
        simp only [Option.map_some]
        rw [Nat.mul_comm, Nat.mul_add_mod, Nat.mod_eq_of_lt hk]
        simp [List.getD, show k < zs.length by omega]
      · rw [if_neg hk, List.getElem?_eq_none (by omega)]
    rw [this]
    exact hz
  · cases hx

theorem setsT_ok (hE : EnvOk P E) {e : K} : ∀ (ps : List (Nat × V T)) (qs : List (Nat × Value)) (xs xs' : List (T e)) (cs : List Value), setsT E e xs ps = some xs' → Parts E g ps qs → Elems E g.G e xs cs →
    xs'.length = xs.length ∧ ∃ cs', Instr.fill (fun i => some (i * E.size (E.num e), E.size (E.num e))) ⟨cs⟩ qs = some ⟨cs'⟩ ∧ Elems E g.G e xs' cs' := by
  intro ps
  induction ps with
  | nil =>
    intro qs xs xs' cs h hp he
    cases hp
    simp only [setsT, Option.some.injEq] at h
    subst h
    exact ⟨rfl, cs, rfl, he⟩
  | cons p ps ih =>
    obtain ⟨i, v⟩ := p
    intro qs xs xs' cs h hp he
    cases hp with
    | @cons _ _ x _ qs hv hs =>
      simp only [setsT] at h
      split at h
      · rename_i y hlt hd
        have hlt' : i < xs.length := Nat.le_of_ble_eq_true hlt
        have hfc := hE.dec g e _ y _ hd hv.cells
        have hsz : x.cells.size = E.size (E.num e) := by rw [← Array.length_toList, ← hfc.length, hE.encLen]
        obtain ⟨h1, cs', h2, h3⟩ := ih qs _ xs' _ h hs (he.set hE hlt' hfc)
        refine ⟨by rw [h1, List.length_set], cs', ?_, h3⟩
        have hmul : i * E.size (E.num e) + E.size (E.num e) ≤ cs.length := by
          have := Nat.mul_le_mul_right (E.size (E.num e)) (show i + 1 ≤ xs.length by omega)
          rw [Nat.add_mul, Nat.one_mul, ← he.len] at this
          exact this
        rw [fill_cons rfl hsz hmul]
        exact h2
      · cases h

/-- A row of cells that is frozen as soon as it is made. -/
theorem newRow_ok (hE : EnvOk P E) (hi : Inv E g st w) {e : K} {xs : List (T e)} {cs : List Value} (h : Elems E g.G e xs cs) :
    ∃ g', To E g w g' st { w with heap := w.heap.push (.cells ⟨cs⟩ (E.num e)) } ∧ Fc E g'.G (.sl e xs .no) (.slice (some ⟨w.heap.size, 0, none⟩) xs.length xs.length) ∧ g'.M = g.M := by
  have hG : GLe g.G (plus g.G w.heap.size 0 cs) := plus_le fun o' _ _ => hi.glt' (Nat.le_refl _)
  have hold : ∀ b, b < w.heap.size → (w.heap.push (.cells ⟨cs⟩ (E.num e)))[b]? = w.heap[b]? := fun b hb => by rw [Array.getElem?_push, if_neg (by omega)]
  have hnew : (w.heap.push (.cells ⟨cs⟩ (E.num e)))[w.heap.size]? = some (.cells ⟨cs⟩ (E.num e)) := by simp
  have hstep := hi.grow (w' := { w with heap := w.heap.push (.cells ⟨cs⟩ (E.num e)) }) hG (fun b off v hv => by
    by_cases hb : b = w.heap.size
    · subst hb
      rw [cell?_cells hnew]
      by_cases ho : off < cs.length
      · unfold plus at hv
        rw [if_pos ⟨rfl, by omega, by omega⟩] at hv
        simpa using hv
      · rw [plus_out (by omega), hi.glt' (Nat.le_refl _)] at hv
        cases hv
    · rw [plus_other hb] at hv
      rw [cell?_block (w := w) (hold b (hi.glt hv))]
      exact hi.froz b off v hv) rfl rfl rfl (by simp) (fun b hb => ⟨hold b hb, fun off => plus_other (by omega)⟩)
  exact ⟨_, ⟨hstep.2.2, hstep.1, hstep.2.1⟩, (h.mono hG).fc (plus_fz _ _ _ _) (Nat.le_refl _), rfl⟩

theorem zeroT_ok (hE : EnvOk P E) (G : Nat → Nat → Option Value) {e : K} {z : T e} (h : zeroT E e = some z) : ∃ i x vs, P.info? (E.num e) = some i ∧ i.zero = some x ∧ i.size = E.size (E.num e) ∧ i.bytes = E.bytes e ∧ 0 < i.bytes ∧ 0 < i.size ∧
    x.cells = ⟨vs⟩ ∧ vs.length = E.size (E.num e) ∧ Fcs E G (E.enc e z) vs ∧ CellsOf E (E.num e) x vs := by
  unfold zeroT at h
  cases hz : zeroC E (E.num e) with
  | none => simp [hz] at h
  | some cs =>
    simp only [hz, Option.bind_some] at h
    obtain ⟨i, x, vs, h1, h2, h3, h4, h5, h6⟩ := hE.zero _ _ hz
    obtain ⟨i', x', h1', h2', h7, h8, h9, h10, h11⟩ := hE.elem e
    rw [h1] at h1'
    cases h1'
    have hc := zero_cells h3 h4
    have hfc := hE.dec ⟨G, []⟩ e _ _ _ h (h6 ⟨G, []⟩)
    exact ⟨i, x, vs, h1, h2, h7, h9, h10, h11, by rw [← hc], by rw [← hfc.length, hE.encLen], hfc, h3⟩
theorem buildSlice_ok (hE : EnvOk P E) {t len : Nat} {parts : Array (Nat × Operand)} (hi : Inv E g st w) (hf : FrOk E g fr a.tmps) {k : Ask T} (h : buildSliceA E fr o t len parts = some k) (hop : o.op = .buildSlice t len parts) :
    SoundAsk P E g st w ((execOp a.eval o).run P w) k := by
  have ht := hE.ty t
  have hparts : (parts.map fun p => (p.1, a.eval p.2)).toList = parts.toList.map fun p => (p.1, a.eval p.2) := by simp
  unfold buildSliceA at h
  split at h
  case h_2 => cases h
  rename_i e hty
  rw [hty] at ht
  split at h
  case h_2 => cases h
  rename_i z ps hz hp hb
  split at h
  case h_2 => cases h
  rename_i xs hs
  simp only [Option.some.injEq] at h
  subst h
  obtain ⟨inf, x, vs, h1, h2, h3, _, _, h4, h5, h6, h7, _⟩ := zeroT_ok hE g.G hz
  have hpos : 0 < E.size (E.num e) := by rw [← h3]; exact h4
  obtain ⟨hlen, cs', h8, h9⟩ := setsT_ok hE ps _ _ xs _ hs (partsV_ok hf _ _ _ hp) (Elems.zeros len h7 h6 hpos)
  rw [List.length_replicate] at hlen
  obtain ⟨g', h10, h11, h12⟩ := newRow_ok hE hi h9
  rw [hlen] at h11
  refine ⟨g', _, _, ?_, h10, .slfull h11⟩
  have hb' : ¬ (len * E.size (E.num e) > 2 ^ 24) := by have := Nat.le_of_ble_eq_true hb; omega
  have hzeros : (if len * E.size (E.num e) = 0 then (pure #[] : Sem (Array Value)) else do pure (← zeroValue (E.num e)).cells).run P w = .ok (if len * E.size (E.num e) = 0 then #[] else ⟨vs⟩) w := by
    split
    · rfl
    · simp [zeroValue, typeInfo, h1, h2, h5]
  have hcells : ((Array.range (len * E.size (E.num e))).map fun i => (if len * E.size (E.num e) = 0 then #[] else (⟨vs⟩ : Array Value))[i % (if len * E.size (E.num e) = 0 then #[] else (⟨vs⟩ : Array Value)).size]!) =
      ⟨(List.range (len * E.size (E.num e))).map fun i => vs.getD (i % E.size (E.num e)) undef⟩ := by
    by_cases hz0 : len * E.size (E.num e) = 0
    · rw [hz0]
      apply Array.ext'
      simp
    · simp only [hz0, if_false]
      apply Array.ext'
      rw [Array.toList_map, Array.toList_range]
      apply List.map_congr_left
      intro i _
      have hsz : (⟨vs⟩ : Array Value).size = E.size (E.num e) := h6
      rw [hsz]
      have hlt : i % E.size (E.num e) < vs.length := by rw [h6]; exact Nat.mod_lt _ hpos
      rw [getElem!_pos (⟨vs⟩ : Array Value) (i % E.size (E.num e)) hlt]
      simp [List.getD, hlt]
  have hrun : (Instr.buildSlice t len (parts.map fun p => (p.1, a.eval p.2))).run P w = .ok (.slice (some ⟨w.heap.size, 0, none⟩) len len) { w with heap := w.heap.push (.cells ⟨cs'⟩ (E.num e)) } := by
    by_cases hz0 : len * E.size (E.num e) = 0
    · simp only [hz0, if_true] at hcells
      simp only [Instr.buildSlice, Sem.run_bind, run_underlying ht.1, Result.andThen_ok, run_sizeOf' h1, h3, hb', if_false, hz0, if_true, Sem.run_pure, hparts]
      rw [hz0] at h8
      rw [if_neg (by decide)]
      simp only [Sem.run_bind, Sem.run_pure, Result.andThen_ok]
      have e0 : (Array.map (fun x => (#[] : Array Value)[x % (#[] : Array Value).size]!) (Array.range 0)) = ⟨[]⟩ := by
        apply Array.ext'
        simp
      rw [e0]
      rw [show ((List.range 0).map fun i => vs.getD (i % E.size (E.num e)) undef) = [] by simp] at h8
      rw [h8]
      rfl
    · simp only [hz0, if_false] at hcells
      simp only [Instr.buildSlice, Sem.run_bind, run_underlying ht.1, Result.andThen_ok, run_sizeOf' h1, h3, hb', if_false, hz0, zeroValue, typeInfo, run_program, h1, h2, Sem.run_pure, h5, hcells, hparts]
      rw [h8]
      rfl
  simp [execOp, hop, hrun]
end
end Go.Proofs.YtnenfgpjedddoaaGreat.AI
