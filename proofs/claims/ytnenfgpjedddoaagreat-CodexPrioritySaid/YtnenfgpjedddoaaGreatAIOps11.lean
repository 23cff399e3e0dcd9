/- Each operation does what the abstract interpreter says: new maps and arrays, iterators over texts. -/
import Derived.Test.YtnenfgpjedddoaaGreatAIOps10
import Derived.Laws.MakeOwn
set_option linter.unusedVariables false
set_option linter.unusedSectionVars false
set_option linter.unusedSimpArgs false
namespace Go.Proofs.YtnenfgpjedddoaaGreat.AI
open Go

variable {K : Type} [DecidableEq K] {T : K → Type} {E : Env T} {P : Program}
section
variable {g : Gh} {st : List (Ob T)} {w : World} {fr : Fr T} {a : Act} (o : Oper)

theorem makeMap_ok (hE : EnvOk P E) {t : Nat} {rs : Option Operand} (hi : Inv E g st w) (hf : FrOk E g fr a.tmps) {k : Ask T} (h : makeMapA E fr o t rs = some k) (hop : o.op = .makeMap t rs) :
    SoundAsk P E g st w ((execOp a.eval o).run P w) k := by
  have ht := hE.ty t
  unfold makeMapA at h
  split at h
  case h_2 => cases h
  rename_i kt et hty
  rw [hty] at ht
  have fin : (Instr.makeMap t (rs.map a.eval)).run P w = .ok (.map (some w.heap.size)) { w with heap := w.heap.push (.map #[] 0) } → k = .new true (.map kt et []) (fun i => .map i) → SoundAsk P E g st w ((execOp a.eval o).run P w) k := fun hr hk => by
    subst hk
    intro _ p hp
    refine ⟨⟨g.G, g.M.set p (.map w.heap.size [])⟩, { w with heap := w.heap.push (.map #[] 0) }, _, by simp [execOp, hop, hr], ?_, .map (hi.fresh_at hp _)⟩
    refine hi.fresh (w' := { w with heap := w.heap.push (.map #[] 0) }) (ob := .map #[] 0) (l' := .map w.heap.size []) (G' := g.G) hp rfl rfl rfl rfl (.refl _) (fun _ _ _ => rfl)
      (fun b off v hb hv => by rw [hi.glt' hb] at hv; cases hv) (fun b hb => by simp only [Loc.block, Option.some.injEq] at hb; exact hb.symm) ?_
    refine ⟨#[], 0, ?_, .nil, fun p hp => (by cases hp), .nil, .nil⟩
    simp
  split at h
  · simp only [Option.some.injEq] at h
    exact fin (by simp [Instr.makeMap]) h.symm
  · rename_i x
    split at h
    · rename_i k1 n hx
      simp only [Option.some.injEq] at h
      refine fin ?_ h.symm
      have := (evalO_ok hf hx).int_inv
      simp [Instr.makeMap, run_underlying ht.1, this, asInt, asIntOf]
    · cases h

theorem range_ok (hE : EnvOk P E) {t : Nat} {x : Operand} (hi : Inv E g st w) (hf : FrOk E g fr a.tmps) {k : Ask T} (h : rangeA E fr o t x = some k) (hop : o.op = .range t x) :
    SoundAsk P E g st w ((execOp a.eval o).run P w) k := by
  have ht := hE.ty t
  unfold rangeA at h
  split at h
  case h_2 => cases h
  rename_i s hty hx
  rw [hty] at ht
  simp only [Option.some.injEq] at h
  subst h
  intro _ p hp
  have hs := (evalO_ok hf hx).str_inv
  have hr : (Instr.range t (a.eval x)).run P w = .ok (.pointer (some ⟨w.heap.size, 0, none⟩)) { w with heap := w.heap.push (.stringIter ⟨⟨s⟩⟩ 0) } := by
    rw [hs]
    simp [Instr.range, run_underlying ht.1]
  refine ⟨⟨g.G, g.M.set p (.iter w.heap.size)⟩, _, _, by simp [execOp, hop, hr]; rfl, ?_, .itr (hi.fresh_at hp _)⟩
  refine hi.fresh (w' := { w with heap := w.heap.push (.stringIter ⟨⟨s⟩⟩ 0) }) (ob := .stringIter ⟨⟨s⟩⟩ 0) (l' := .iter w.heap.size) (G' := g.G) hp rfl rfl rfl rfl (.refl _) (fun _ _ _ => rfl)
    (fun b off v hb hv => by rw [hi.glt' hb] at hv; cases hv) (fun b hb => by simp only [Loc.block, Option.some.injEq] at hb; exact hb.symm) ?_
  show (w.heap.push (.stringIter ⟨⟨s⟩⟩ 0))[w.heap.size]? = _
  simp

theorem roomFor_spec {e : K} {m : Int} (h : roomFor E e m = true) : 0 ≤ m ∧ m * (E.bytes e : Int) ≤ 140737488355328 ∧ m ≤ 9223372036854775807 := by
  simpa [roomFor, and_assoc] using h
theorem madeCells_eq {vs : List Value} {sz n : Nat} (hv : vs.length = sz) (h0 : 0 < sz) : madeCells ⟨vs⟩ (n * sz) = ⟨(List.range (n * sz)).map fun i => vs.getD (i % sz) undef⟩ := by
  unfold madeCells
  apply Array.ext'
  rw [Array.toList_map, Array.toList_range]
  apply List.map_congr_left
  intro i _
  have hsz : (⟨vs⟩ : Array Value).size = sz := hv
  rw [hsz]
  have hlt : i % sz < vs.length := by rw [hv]; exact Nat.mod_lt _ h0
  rw [getElem!_pos (⟨vs⟩ : Array Value) (i % sz) hlt]
  simp [List.getD, hlt]

theorem makeSlice_ok (hE : EnvOk P E) {t : Nat} {lo co : Operand} (hi : Inv E g st w) (hf : FrOk E g fr a.tmps) {k : Ask T} (h : makeSliceA E fr o t lo co = some k) (hop : o.op = .makeSlice t lo co) :
    SoundAsk P E g st w ((execOp a.eval o).run P w) k := by
  have ht := hE.ty t
  unfold makeSliceA at h
  split at h
  case h_2 => cases h
  rename_i e k1 n k2 m hty hl hc
  rw [hty] at ht
  have hln := (evalO_ok hf hl).int_inv
  have hcm := (evalO_ok hf hc).int_inv
  obtain ⟨inf, zv, h1, h2, h3, h4, h5, h6, h7⟩ := hE.elem e
  have run : 0 ≤ n → n ≤ m → roomFor E e m = true → (execOp a.eval o).run P w = .ok (.value (.slice (some ⟨w.heap.size, 0, none⟩) n.toNat m.toNat)) (w.alloc (.cells (madeCells zv.cells (m.toNat * inf.size)) (E.num e))) := fun hn hnm hr => by
    obtain ⟨r1, r2, r3⟩ := roomFor_spec hr
    have hb : (inf.bytes : Int) * m ≤ 281474976710656 := by rw [h5, Int.mul_comm]; omega
    have := run_make (P := P) w t (E.num e) inf zv ht.1 h1 h2 k1 k2 n m hn hnm hb r3
    simp [execOp, hop, hln, hcm, this]
  split at h
  · rename_i hz
    simp only [Option.some.injEq] at h
    subst h
    intro hb p hp
    obtain ⟨r1, r2, r3⟩ := roomFor_spec hb
    have hn0 : n = 0 := by
      unfold isZero at hz
      split at hz
      · simp only [evalO, constV, Option.some.injEq, V.int.injEq] at hl
        exact hl.2.symm
      · cases hz
    subst hn0
    have hrun := run (Int.le_refl _) r1 hb
    obtain ⟨g', h8, h9⟩ := grown_ok (xs := ([] : List (T e))) (cells := []) (rest := (madeCells zv.cells (m.toNat * inf.size)).toList) (nc := m.toNat) (ver := 0) (w' := w.alloc (.cells (madeCells zv.cells (m.toNat * inf.size)) (E.num e)))
      hE hi hp (hi.dead_loc hp) (fun _ _ _ => trivial) (Elems.nil _ e) (Nat.zero_le _) rfl (by
        rw [List.nil_append, Array.length_toList, size_madeCells, h3]) rfl rfl rfl
    exact ⟨g', _, _, hrun, h8, h9⟩
  · split at h
    · rename_i z hz
      simp only [Option.some.injEq] at h
      subst h
      intro hb p hp
      simp only [Bool.and_eq_true, decide_eq_true_eq] at hb
      obtain ⟨rfl, hb⟩ := hb
      obtain ⟨r1, r2, r3⟩ := roomFor_spec hb
      have hrun := run r1 (Int.le_refl _) hb
      obtain ⟨i', x', vs, q1, q2, _, _, _, _, q3, q4, q5, _⟩ := zeroT_ok hE g.G hz
      rw [h1] at q1
      cases q1
      rw [h2] at q2
      cases q2
      have hpos : 0 < E.size (E.num e) := by rw [← h3]; exact h7
      have hel := Elems.zeros n.toNat q5 q4 hpos
      have hcells : madeCells zv.cells (n.toNat * inf.size) = ⟨(List.range (n.toNat * E.size (E.num e))).map fun i => vs.getD (i % E.size (E.num e)) undef⟩ := by
        rw [q3, h3]
        exact madeCells_eq q4 hpos
      rw [hcells] at hrun
      refine ⟨⟨g.G, g.M.set p (.arr w.heap.size n.toNat (E.size (E.num e)))⟩, _, _, hrun, ?_, .asl (hi.fresh_at hp _)⟩
      refine hi.fresh (w' := w.alloc (.cells ⟨(List.range (n.toNat * E.size (E.num e))).map fun i => vs.getD (i % E.size (E.num e)) undef⟩ (E.num e))) (ob := .cells ⟨(List.range (n.toNat * E.size (E.num e))).map fun i => vs.getD (i % E.size (E.num e)) undef⟩ (E.num e)) (l' := .arr w.heap.size n.toNat (E.size (E.num e))) (G' := g.G) hp rfl rfl rfl rfl (.refl _) (fun _ _ _ => rfl)
        (fun b off v hb hv => by rw [hi.glt' hb] at hv; cases hv) (fun b hb => by simp only [Loc.block, Option.some.injEq] at hb; exact hb.symm) ?_
      refine ⟨by simp, rfl, fun off => hi.glt' (Nat.le_refl _), _, ?_, ?_, hel.el⟩
      · show (w.heap.push _)[w.heap.size]? = _
        simp
      · rw [hel.len, List.length_replicate]
    · cases h

theorem run_getObj {r : Nat} {ob : Obj} (h : w.heap[r]? = some ob) (hc : ∀ c t f, ob ≠ .cells c t f) : (getObj r).run P w = .ok ob w := by
  cases ob <;> first
    | (simp [getObj, Sem.run, h]; done)
    | exact absurd rfl (hc _ _ _)
theorem run_setObj {r : Nat} {ob ob' : Obj} (h : w.heap[r]? = some ob) (hc : ∀ c t f, ob ≠ .cells c t f) : (setObj r ob').run P w = .ok () { w with heap := w.heap.setIfInBounds r ob' } := by
  cases ob <;> first
    | (simp [setObj, Sem.run, h]; done)
    | exact absurd rfl (hc _ _ _)
theorem next_ok {x : Operand} (hi : Inv E g st w) (hf : FrOk E g fr a.tmps) {k : Ask T} (h : nextA fr o x = some k) (hop : o.op = .next x true) :
    SoundAsk P E g st w ((execOp a.eval o).run P w) k := by
  unfold nextA at h
  split at h
  case h_2 => cases h
  rename_i i hx
  simp only [Option.some.injEq] at h
  subst h
  intro ob ob' v hob hk
  have hv := evalO_ok hf hx
  obtain ⟨r, hM, hxv⟩ : ∃ r, g.M[i]? = some (.iter r) ∧ a.eval x = .pointer (some ⟨r, 0, none⟩) := by
    generalize a.eval x = q at hv
    cases hv with
    | fc h => cases h
    | itr h => exact ⟨_, h, rfl⟩
  have hok := hi.obs i _ _ hob hM
  unfold nextK at hk
  split at hk
  case h_2 => cases hk
  rename_i s pos
  have hheap : w.heap[r]? = some (.stringIter ⟨⟨s⟩⟩ pos) := hok
  have hg := run_getObj (P := P) hheap (by simp)
  have hsz : (⟨⟨s⟩⟩ : ByteArray).size = s.length := rfl
  split at hk
  · rename_i hb
    simp only [Option.some.injEq, Prod.mk.injEq, true_and] at hk
    obtain ⟨rfl, rfl⟩ := hk
    have hlt : pos < s.length := Nat.le_of_ble_eq_true hb
    have hs := run_setObj (P := P) (ob' := .stringIter ⟨⟨s⟩⟩ (pos + (Utf8.decode ⟨⟨s⟩⟩ pos).2)) hheap (by simp)
    have hrun : (Instr.next (a.eval x) true o.type).run P w = .ok (.tuple #[.bool true, goInt pos, .int .i32 (Utf8.decode ⟨⟨s⟩⟩ pos).1]) { w with heap := w.heap.setIfInBounds r (.stringIter ⟨⟨s⟩⟩ (pos + (Utf8.decode ⟨⟨s⟩⟩ pos).2)) } := by
      rw [hxv]
      simp [Instr.next, hg, hsz, hlt, hs]
    have hr : r < w.heap.size := heap_lt hheap
    have hto := hi.write (w' := { w with heap := w.heap.setIfInBounds r (.stringIter ⟨⟨s⟩⟩ (pos + (Utf8.decode ⟨⟨s⟩⟩ pos).2)) }) (ob' := .iter s (pos + (Utf8.decode ⟨⟨s⟩⟩ pos).2)) hob hM
      (by show (w.heap.setIfInBounds r _)[r]? = _; simp [hr]) (fun b hb => by
        show (w.heap.setIfInBounds r _)[b]? = _
        rw [Array.getElem?_setIfInBounds_ne (fun e => hb (by rw [e]; rfl))])
      (fun b off v hv hbl => by
        simp only [Loc.block, Option.some.injEq] at hbl
        subst hbl
        have := hi.froz _ _ _ hv
        simp [World.cell?, hheap] at this) rfl rfl rfl (by simp)
    exact ⟨_, _, _, by simp [execOp, hop, hrun]; rfl, hto, .tup (.cons (.bool _ _) (.cons (.int _ _ _) (.cons (.int _ _ _) .nil)))⟩
  · rename_i hb
    simp only [Option.some.injEq, Prod.mk.injEq, true_and] at hk
    obtain ⟨rfl, rfl⟩ := hk
    have hge : ¬ pos < s.length := fun hlt => by
      have : Nat.ble (pos + 1) s.length = true := Nat.ble_eq_true_of_le hlt
      rw [hb] at this; cases this
    have hrun : (Instr.next (a.eval x) true o.type).run P w = .ok (.tuple #[.bool false]) w := by
      rw [hxv]
      simp [Instr.next, hg, hsz, hge]
    rw [set_same hob]
    exact .here hi (by simp [execOp, hop, hrun]) (.tup (.cons (.bool _ _) .nil))
end
end Go.Proofs.YtnenfgpjedddoaaGreat.AI
