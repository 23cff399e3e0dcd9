/- Each operation does what the abstract interpreter says: new variables; the cells of lists. -/
import Derived.Test.YtnenfgpjedddoaaGreatAIOps7
set_option linter.unusedVariables false
set_option linter.unusedSectionVars false
set_option linter.unusedSimpArgs false
namespace Go.Proofs.YtnenfgpjedddoaaGreat.AI
open Go

variable {K : Type} [DecidableEq K] {T : K → Type} {E : Env T} {P : Program}
section
variable {g : Gh} {st : List (Ob T)} {w : World} {fr : Fr T} {a : Act} (o : Oper)

theorem Inv.dead_loc (hi : Inv E g st w) {p : Nat} (hp : st[p]? = some .dead) : g.M[p]? = some .none := by
  have hlt : p < g.M.length := by rw [hi.len]; exact (List.getElem?_eq_some_iff.1 hp).1
  have h := hi.obs p .dead g.M[p] hp (by simp [hlt])
  have : g.M[p] = .none := by
    cases hl : g.M[p] <;> rw [hl] at h <;> first | rfl | cases h
  simp [hlt, this]
/-- A new block for a new object; some of its cells may be frozen at once. -/
theorem Inv.fresh (hi : Inv E g st w) {p : Nat} (hp : st[p]? = some .dead) {w' : World} {ob : Obj} (hh : w'.heap = w.heap.push ob) (hos : w'.os = w.os) (htape : w'.tape = w.tape) (hout : w'.output = w.output)
    {ob' : Ob T} {l' : Loc} {G' : Nat → Nat → Option Value} (hG : GLe g.G G') (hsame : ∀ b off, b < w.heap.size → G' b off = g.G b off)
    (hnew : ∀ b off v, w.heap.size ≤ b → G' b off = some v → w'.cell? ⟨b, off, none⟩ = some v)
    (hbl : ∀ b, l'.block = some b → b = w.heap.size) (hok : ObOk E ⟨G', g.M.set p l'⟩ w' ob' l') : To E g w ⟨G', g.M.set p l'⟩ (st.set p ob') w' := by
  have hold : ∀ b, b < w.heap.size → w'.heap[b]? = w.heap[b]? := fun b hb => by rw [hh, Array.getElem?_push, if_neg (by omega)]
  have := hi.step (w' := w') (ob' := ob') (l' := l') (G' := G') hp (hi.dead_loc hp) trivial hG
    (fun b off v hv => by
      by_cases hb : b < w.heap.size
      · rw [cell?_block (hold b hb)]
        rw [hsame b off hb] at hv
        exact hi.froz b off v hv
      · exact hnew b off v (by omega) hv)
    hos htape hout (by rw [hh]; simp) (fun b hb _ => ⟨hold b hb, fun off => hsame b off hb⟩) (fun b hb => .inr (by rw [hbl b hb]; exact Nat.le_refl _)) hok
  exact ⟨this.2.2, this.1, this.2.1⟩
theorem Inv.fresh_le (hi : Inv E g st w) {p : Nat} (hp : st[p]? = some .dead) {l' : Loc} {G' : Nat → Nat → Option Value} (hG : GLe g.G G') : g.Le ⟨G', g.M.set p l'⟩ := by
  refine ⟨hG, fun j lj hj => ?_⟩
  by_cases hji : p = j
  · subst hji
    rw [hi.dead_loc hp] at hj
    cases hj
    exact ⟨l', by simp [(List.getElem?_eq_some_iff.1 (hi.dead_loc hp)).1], trivial⟩
  · exact ⟨lj, by simp [List.getElem?_set_ne hji, hj], .refl _⟩
theorem Inv.fresh_at (hi : Inv E g st w) {p : Nat} (hp : st[p]? = some .dead) (l' : Loc) : (g.M.set p l')[p]? = some l' := by
  simp [(List.getElem?_eq_some_iff.1 (hi.dead_loc hp)).1]
theorem Inv.glt' (hi : Inv E g st w) {b off : Nat} (hb : w.heap.size ≤ b) : g.G b off = none := by
  cases h : g.G b off with
  | none => rfl
  | some v => exact absurd (hi.glt h) (by omega)

/-- A new variable. -/
theorem newVar_ok (hi : Inv E g st w) {p t : Nat} (hp : st[p]? = some .dead) {cs : List (V T)} {x : Value} (h : Reps E g cs x.cells.toList) (h1 : One x.cells.toList) :
    ∃ g' w', (newVar t x).run P w = .ok ⟨w.heap.size, 0, none⟩ w' ∧ To E g w g' (st.set p (.box t cs)) w' ∧ g'.M[p]? = some (.box w.heap.size) := by
  refine ⟨⟨g.G, g.M.set p (.box w.heap.size)⟩, { w with heap := w.heap.push (.cells x.cells t) }, rfl, ?_, hi.fresh_at hp _⟩
  refine hi.fresh (w' := { w with heap := w.heap.push (.cells x.cells t) }) (ob := .cells x.cells t) (l' := .box w.heap.size) (G' := g.G) hp rfl rfl rfl rfl (.refl _) (fun _ _ _ => rfl)
    (fun b off v hb hv => by rw [hi.glt' hb] at hv; cases hv) (fun b hb => by simp only [Loc.block, Option.some.injEq] at hb; exact hb.symm) ?_
  refine ⟨x.cells.toList, ?_, h.mono (hi.fresh_le hp (.refl _)), h1, fun off => hi.glt' (Nat.le_refl _)⟩
  simp
theorem alloc_ok (hE : EnvOk P E) {t : Nat} (hi : Inv E g st w) (hf : FrOk E g fr a.tmps) {k : Ask T} (h : allocA E fr o t = some k) (hop : o.op = .alloc t) :
    SoundAsk P E g st w ((execOp a.eval o).run P w) k := by
  unfold allocA at h
  cases hz : zeroC E t with
  | none => simp [hz] at h
  | some cs =>
    simp only [hz, Option.map_some, Option.some.injEq] at h
    subst h
    intro _ p hp
    obtain ⟨i, z, vs, h1, h2, h3, h4, h5, h6⟩ := hE.zero t cs hz
    have hzc : z.cells.toList = vs := by
      unfold CellsOf at h3
      split at h3
      · subst h3; rfl
      · subst h3
        have := h4 z (by simp)
        cases z <;> first | rfl | (cases this; done)
    obtain ⟨g', w', h7, h8, h9⟩ := newVar_ok (P := P) (t := t) hi hp (x := z) (by rw [hzc]; exact h6 g) (by rw [hzc]; exact h4)
    refine ⟨g', w', _, ?_, h8, .ptr h9⟩
    simp [execOp, hop, Instr.alloc, zeroValue, typeInfo, h1, h2, h7]
theorem box_ok {t : Nat} {x : Operand} (hi : Inv E g st w) (hf : FrOk E g fr a.tmps) {k : Ask T} (h : boxA E fr o t x = some k) (hop : o.op = .box t x) :
    SoundAsk P E g st w ((execOp a.eval o).run P w) k := by
  unfold boxA at h
  split at h
  · rename_i v hx
    split at h
    · rename_i hl
      simp only [Option.some.injEq] at h
      subst h
      intro _ p hp
      have hv := (evalO_ok hf hx).coerce (E := E) t
      obtain ⟨g', w', h7, h8, h9⟩ := newVar_ok (P := P) (t := t) hi hp hv.cells (hv.cells.one hl)
      refine ⟨g', w', _, ?_, h8, .ptr h9⟩
      simp [execOp, hop, Instr.box, h7]
    · cases h
  · cases h

/-! ### The cells of a list -/
/-- These are the cells of the elements, one behind the other. -/
structure Elems (E : Env T) (G : Nat → Nat → Option Value) (e : K) (xs : List (T e)) (cs : List Value) : Prop where
  len : cs.length = xs.length * E.size (E.num e)
  el : ∀ (j : Nat) x, xs[j]? = some x → Fcs E G (E.enc e x) ((cs.drop (j * E.size (E.num e))).take (E.size (E.num e)))
theorem Elems.nil (G : Nat → Nat → Option Value) (e : K) : Elems E G e [] [] := ⟨by simp, fun j x h => by simp at h⟩
theorem Elems.mono {G G' : Nat → Nat → Option Value} (hG : GLe G G') {e : K} {xs : List (T e)} {cs : List Value} (h : Elems E G e xs cs) : Elems E G' e xs cs :=
  ⟨h.len, fun j x hx => (h.el j x hx).mono hG⟩
theorem Elems.append {G : Nat → Nat → Option Value} {e : K} {xs ys : List (T e)} {cs ds : List Value} (h : Elems E G e xs cs) (k : Elems E G e ys ds) : Elems E G e (xs ++ ys) (cs ++ ds) := by
  refine ⟨by simp [h.len, k.len, Nat.add_mul], fun j x hx => ?_⟩
  rw [List.getElem?_append] at hx
  split at hx
  · rename_i hj
    have hm := Nat.mul_le_mul_right (E.size (E.num e)) (show j + 1 ≤ xs.length by omega)
    rw [Nat.add_mul, Nat.one_mul, ← h.len] at hm
    rw [List.drop_append_of_le_length (by omega), List.take_append_of_le_length (by rw [List.length_drop]; omega)]
    exact h.el j x hx
  · rename_i hj
    have hd : (cs ++ ds).drop (j * E.size (E.num e)) = ds.drop ((j - xs.length) * E.size (E.num e)) := by
      rw [List.drop_append, List.drop_eq_nil_of_le, List.nil_append]
      · congr 1
        rw [h.len, Nat.sub_mul]
      · rw [h.len]
        exact Nat.mul_le_mul_right _ (by omega)
    rw [hd]
    exact k.el _ x hx
theorem Elems.one {G : Nat → Nat → Option Value} {e : K} {xs : List (T e)} {cs : List Value} (hs : 0 < E.size (E.num e)) (h : Elems E G e xs cs) : One cs := by
  intro v hv
  obtain ⟨i, hi⟩ := List.getElem?_of_mem hv
  have hlt : i < cs.length := (List.getElem?_eq_some_iff.1 hi).1
  have hj : i / E.size (E.num e) < xs.length := by
    rw [Nat.div_lt_iff_lt_mul hs, ← h.len]
    exact hlt
  refine (h.el _ _ (List.getElem?_eq_getElem hj)).one v (List.mem_of_getElem? (i := i % E.size (E.num e)) ?_)
  rw [List.getElem?_take, if_pos (Nat.mod_lt _ hs), List.getElem?_drop, Nat.mul_comm, Nat.div_add_mod]
  exact hi
theorem Elems.fc {G : Nat → Nat → Option Value} {e : K} {xs : List (T e)} {cs : List Value} {b off cap : Nat} (h : Elems E G e xs cs) (hz : Fz G b off cs) (hc : xs.length ≤ cap) :
    Fc E G (.sl e xs .no) (.slice (some ⟨b, off, none⟩) xs.length cap) :=
  .sl e xs b off cap (fun j => (cs.drop (j * E.size (E.num e))).take (E.size (E.num e))) hc h.el (fun j x hx k v hv => by
    rw [List.getElem?_take] at hv
    split at hv
    · have := hz.drop (j * E.size (E.num e)) k v hv
      exact this
    · cases hv)
/-- The cells of a list that lies in frozen memory. -/
theorem Fc.elems (hE : EnvOk P E) {G : Nat → Nat → Option Value} {e : K} {b off n cap : Nat} : ∀ {xs : List (T e)}, Fc E G (.sl e xs .no) (.slice (some ⟨b, off, none⟩) n cap) → ∃ cs, Elems E G e xs cs ∧ Fz G b off cs := by
  intro xs h
  cases h with
  | sle => exact ⟨[], Elems.nil G e, fun k v hv => by simp at hv⟩
  | sl _ _ _ _ _ css hc hs hz =>
    suffices H : ∀ m, m ≤ xs.length → ∃ cs, Elems E G e (xs.take m) cs ∧ Fz G b off cs by
      obtain ⟨cs, h1, h2⟩ := H xs.length (Nat.le_refl _)
      rw [List.take_length] at h1
      exact ⟨cs, h1, h2⟩
    intro m
    induction m with
    | zero => exact fun _ => ⟨[], by simpa using Elems.nil G e, fun k v hv => by simp at hv⟩
    | succ m ih =>
      intro hm
      obtain ⟨cs, h1, h2⟩ := ih (by omega)
      have hx : xs[m]? = some xs[m] := List.getElem?_eq_getElem (by omega)
      have hl : (css m).length = E.size (E.num e) := by rw [← (hs m _ hx).length, hE.encLen]
      have hone : Elems E G e [xs[m]] (css m) := by
        refine ⟨by simp [hl], fun j x hj => ?_⟩
        cases j with
        | zero =>
          simp only [List.getElem?_cons_zero, Option.some.injEq] at hj
          subst hj
          simp only [Nat.zero_mul, List.drop_zero]
          rw [← hl, List.take_length]
          exact hs m _ hx
        | succ j => simp at hj
      refine ⟨cs ++ css m, ?_, fun k v hv => ?_⟩
      · rw [List.take_succ_eq_append_getElem (by omega)]
        exact h1.append hone
      · rw [List.getElem?_append] at hv
        split at hv
        · exact h2 k v hv
        · have := hz m _ hx _ v hv
          have hcl : cs.length = m * E.size (E.num e) := by rw [h1.len, List.length_take, Nat.min_eq_left (by omega)]
          rw [hcl] at this
          rename_i hk
          rwa [show off + m * E.size (E.num e) + (k - m * E.size (E.num e)) = off + k by omega] at this
end
end Go.Proofs.YtnenfgpjedddoaaGreat.AI
