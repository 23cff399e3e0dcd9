/- How a world that is written to, or that gets a new block, goes on to stand for the objects. -/
import Derived.Test.YtnenfgpjedddoaaGreatAIEnv
set_option linter.unusedVariables false
set_option linter.unusedSectionVars false
namespace Go.Proofs.YtnenfgpjedddoaaGreat.AI
open Go

variable {K : Type} [DecidableEq K] {T : K → Type} {E : Env T}

/-! ### Rows of cells -/
theorem cell?_cells {w : World} {b off : Nat} {c : List Value} {t : TypeId} {fz : Nat × Nat} (h : w.heap[b]? = some (.cells ⟨c⟩ t fz)) : w.cell? ⟨b, off, none⟩ = c[off]? := by
  simp [World.cell?, h]
theorem at_cells {w : World} {b : Nat} {c : List Value} {t : TypeId} {fz : Nat × Nat} (h : w.heap[b]? = some (.cells ⟨c⟩ t fz)) : At w b 0 c := fun k v hv => by
  rw [cell?_cells h, Nat.zero_add]; exact hv
theorem at_cells_drop {w : World} {b : Nat} {c : List Value} {t : TypeId} {fz : Nat × Nat} (h : w.heap[b]? = some (.cells ⟨c⟩ t fz)) (off : Nat) : At w b off (c.drop off) := by
  have := (at_cells h).drop off
  rwa [Nat.zero_add] at this
theorem cell?_block {w w' : World} {b : Nat} (h : w'.heap[b]? = w.heap[b]?) (off : Nat) : w'.cell? ⟨b, off, none⟩ = w.cell? ⟨b, off, none⟩ :=
  World.cell?_of_block (w := w) h
theorem cell?_lt {w : World} {b off : Nat} {v : Value} (h : w.cell? ⟨b, off, none⟩ = some v) : b < w.heap.size := by
  unfold World.cell? at h
  split at h
  · rename_i hb
    exact (Array.getElem?_eq_some_iff.1 hb).1
  · cases h
theorem heap_lt {w : World} {b : Nat} {o : Obj} (h : w.heap[b]? = some o) : b < w.heap.size := (Array.getElem?_eq_some_iff.1 h).1

/-- A row with some of its cells written anew. -/
def spliced (c : List Value) (off : Nat) (us : List Value) : List Value := c.take off ++ us ++ c.drop (off + us.length)
theorem spliced_length {c : List Value} {off : Nat} {us : List Value} (h : off + us.length ≤ c.length) : (spliced c off us).length = c.length := by
  simp [spliced]; omega
theorem spliced_cons {c : List Value} {off : Nat} {u : Value} {us : List Value} (h : off + (us.length + 1) ≤ c.length) :
    spliced (c.set off u) (off + 1) us = spliced c off (u :: us) := by
  have e1 : (c.set off u).take (off + 1) = c.take off ++ [u] := by
    rw [List.take_add_one, List.getElem?_set_self (by omega), List.take_set_of_le (Nat.le_refl _)]
    rfl
  have e2 : (c.set off u).drop (off + 1 + us.length) = c.drop (off + 1 + us.length) := by
    rw [List.drop_set_of_lt (by omega)]
  unfold spliced
  rw [e1, e2]
  simp [Nat.add_assoc, Nat.add_comm 1]
theorem setCells_heap {b : Nat} {t : TypeId} : ∀ (us c : List Value) (off : Nat) (w : World), w.heap[b]? = some (.cells ⟨c⟩ t (0, 0)) → off + us.length ≤ c.length →
    (w.setCells b off us).heap[b]? = some (.cells ⟨spliced c off us⟩ t (0, 0))
  | [], c, off, w, h, _ => by simpa [World.setCells, spliced] using h
  | u :: us, c, off, w, h, hl => by
    simp only [List.length_cons] at hl
    have h1 : (w.setCell ⟨b, off, none⟩ u).heap[b]? = some (.cells ⟨c.set off u⟩ t (0, 0)) := by
      simp [World.setCell, Array.getElem?_modify, h]
    have := setCells_heap us (c.set off u) (off + 1) _ h1 (by simp; omega)
    rw [spliced_cons (by omega)] at this
    simpa [World.setCells] using this
theorem setCells_other {b k : Nat} (hk : k ≠ b) : ∀ (us : List Value) (off : Nat) (w : World), (w.setCells b off us).heap[k]? = w.heap[k]?
  | [], _, _ => rfl
  | u :: us, off, w => by
    have := setCells_other hk us (off + 1) (w.setCell ⟨b, off, none⟩ u)
    rw [show w.setCells b off (u :: us) = (w.setCell ⟨b, off, none⟩ u).setCells b (off + 1) us from rfl, this]
    exact RowKit.Below.heap_setCell w ⟨b, off, none⟩ u k hk
theorem setCells_rest {b : Nat} : ∀ (us : List Value) (off : Nat) (w : World), (w.setCells b off us).os = w.os ∧ (w.setCells b off us).tape = w.tape ∧ (w.setCells b off us).output = w.output ∧ (w.setCells b off us).heap.size = w.heap.size
  | [], _, _ => ⟨rfl, rfl, rfl, rfl⟩
  | u :: us, off, w => by
    obtain ⟨a, b', c, d⟩ := setCells_rest (b := b) us (off + 1) (w.setCell ⟨b, off, none⟩ u)
    refine ⟨a, b', c, d.trans ?_⟩
    simp [World.setCell]

/-! ### What stays -/
theorem ObOk.lt {g : Gh} {w : World} {ob : Ob T} {l : Loc} {b : Nat} (h : ObOk E g w ob l) (hb : l.block = some b) : b < w.heap.size := by
  cases l with
  | none => cases hb
  | box b' =>
    simp only [Loc.block, Option.some.injEq] at hb; subst hb
    cases ob <;> simp only [ObOk] at h
    obtain ⟨vs, h1, _⟩ := h
    exact heap_lt h1
  | arr b' n sz =>
    simp only [Loc.block, Option.some.injEq] at hb; subst hb
    cases ob <;> simp only [ObOk] at h
    · obtain ⟨_, _, _, vs, h1, _⟩ := h
      exact heap_lt h1
    · exact h.2.2.1
  | vec ver a len cap mine =>
    cases ob <;> simp only [ObOk] at h
    cases mine
    · cases a <;> simp [Loc.block] at hb
    · obtain ⟨b', vs, rfl, h1, _⟩ := h.2.2.2 rfl
      simp only [Loc.block, Option.some.injEq] at hb
      subst hb
      exact heap_lt h1
  | map r bs =>
    simp only [Loc.block, Option.some.injEq] at hb; subst hb
    cases ob <;> simp only [ObOk] at h
    obtain ⟨es, clock, h1, _⟩ := h
    exact heap_lt h1
  | iter r =>
    simp only [Loc.block, Option.some.injEq] at hb; subst hb
    cases ob <;> simp only [ObOk] at h
    exact heap_lt h
theorem Inv.lt {g : Gh} {st : List (Ob T)} {w : World} (hi : Inv E g st w) {i : Nat} {l : Loc} {b : Nat} (h : g.M[i]? = some l) (hb : l.block = some b) : b < w.heap.size := by
  have hlt : i < st.length := by rw [← hi.len]; exact (List.getElem?_eq_some_iff.1 h).1
  exact (hi.obs i st[i] l (by simp [hlt]) h).lt hb
theorem Inv.glt {g : Gh} {st : List (Ob T)} {w : World} (hi : Inv E g st w) {b off : Nat} {v : Value} (h : g.G b off = some v) : b < w.heap.size := cell?_lt (hi.froz b off v h)

theorem Ents.mono {g g' : Gh} (hle : g.Le g') {kt et : K} : ∀ {ps : List (T kt × T et)} {es : List MapEntry} {bs : List (Value × Nat)}, Ents E g kt et ps es bs → Ents E g' kt et ps es bs
  | _, _, _, .nil => .nil
  | _, _, _, .cons a b c d h => .cons (a.mono hle.G) b (c.mono hle.G) d (Ents.mono hle h)
theorem ObOk.mono {g g' : Gh} {w w' : World} {ob : Ob T} {l : Loc} (h : ObOk E g w ob l) (hle : g.Le g') (hs : w.heap.size ≤ w'.heap.size)
    (hk : ∀ b, l.block = some b → w'.heap[b]? = w.heap[b]? ∧ ∀ off, g'.G b off = g.G b off) : ObOk E g' w' ob l := by
  cases ob <;> cases l <;> simp only [ObOk] at h ⊢
  case box.box t cs b =>
    obtain ⟨vs, h1, h2, h3, h4⟩ := h
    obtain ⟨k1, k2⟩ := hk b rfl
    exact ⟨vs, k1.trans h1, h2.mono hle, h3, fun off => (k2 off).trans (h4 off)⟩
  case arr.arr e xs b n sz =>
    obtain ⟨h1, h2, h3, vs, h4, h5, h6⟩ := h
    obtain ⟨k1, k2⟩ := hk b rfl
    exact ⟨h1, h2, fun off => (k2 off).trans (h3 off), vs, k1.trans h4, h5, fun j x hx => (h6 j x hx).mono hle.G⟩
  case fro.arr e xs b n sz =>
    exact ⟨h.1, h.2.1, Nat.lt_of_lt_of_le h.2.2.1 hs, h.2.2.2.mono hle.G⟩
  case vec.vec e ver ver' a len cap mine =>
    obtain ⟨h1, h2, h3, h4⟩ := h
    refine ⟨h1, h2, h3, fun hm => ?_⟩
    obtain ⟨b, vs, rfl, h5, h6, h7⟩ := h4 hm
    subst hm
    obtain ⟨k1, k2⟩ := hk b rfl
    exact ⟨b, vs, rfl, k1.trans h5, h6, fun off ho => (k2 off).trans (h7 off ho)⟩
  case map.map kt et ents r bs =>
    obtain ⟨es, clock, h1, h2, h3⟩ := h
    obtain ⟨k1, k2⟩ := hk r rfl
    exact ⟨es, clock, k1.trans h1, h2.mono hle, h3⟩
  case iter.iter s pos r =>
    exact (hk r rfl).1.trans h

/-- One object moves on (it may be a new one, or none may: then 'l' is 'none'). -/
theorem Inv.step {g : Gh} {st : List (Ob T)} {w w' : World} (hi : Inv E g st w) {i : Nat} {ob ob' : Ob T} {l l' : Loc} {G' : Nat → Nat → Option Value}
    (h1 : st[i]? = some ob) (h2 : g.M[i]? = some l) (hle : l.Le l') (hG : GLe g.G G') (hfro : ∀ b off v, G' b off = some v → w'.cell? ⟨b, off, none⟩ = some v)
    (hos : w'.os = w.os) (htape : w'.tape = w.tape) (hout : w'.output = w.output) (hsize : w.heap.size ≤ w'.heap.size)
    (hkeep : ∀ b, b < w.heap.size → l.block ≠ some b → w'.heap[b]? = w.heap[b]? ∧ ∀ off, G' b off = g.G b off)
    (hblock : ∀ b, l'.block = some b → l.block = some b ∨ w.heap.size ≤ b)
    (hok : ObOk E ⟨G', g.M.set i l'⟩ w' ob' l') : Inv E ⟨G', g.M.set i l'⟩ (st.set i ob') w' ∧ Ext g ⟨G', g.M.set i l'⟩ w w' ∧ g.Le ⟨G', g.M.set i l'⟩ := by
  have hil : i < g.M.length := (List.getElem?_eq_some_iff.1 h2).1
  have hMle : g.Le ⟨G', g.M.set i l'⟩ := ⟨hG, fun j lj hj => by
    by_cases hji : i = j
    · subst hji
      rw [h2] at hj
      cases hj
      exact ⟨l', by simp [hil], hle⟩
    · exact ⟨lj, by simp [List.getElem?_set_ne hji, hj], .refl _⟩⟩
  have hne : ∀ j lj b, i ≠ j → g.M[j]? = some lj → lj.block = some b → l.block ≠ some b := fun j lj b hij hj hb hlb => hij (hi.apart i j l lj b h2 hj hlb hb)
  refine ⟨⟨hfro, ?_, ?_, ?_, ?_, ?_⟩, ⟨hG, hos, htape, hout, hsize, ?_, ?_⟩, hMle⟩
  · simp [hi.len]
  · intro j obj lj hj hlj
    by_cases hji : i = j
    · subst hji
      have hil' : i < st.length := (List.getElem?_eq_some_iff.1 h1).1
      rw [List.getElem?_set_self hil'] at hj
      rw [List.getElem?_set_self hil] at hlj
      cases hj; cases hlj
      exact hok
    · rw [List.getElem?_set_ne hji] at hj hlj
      refine (hi.obs j obj lj hj hlj).mono hMle hsize fun b hb => ?_
      exact hkeep b (hi.lt hlj hb) (hne j lj b hji hlj hb)
  · intro j k lj lk b hj hk hbj hbk
    by_cases hij : i = j
    · by_cases hik : i = k
      · exact hij ▸ hik
      · subst hij
        rw [List.getElem?_set_self hil] at hj
        rw [List.getElem?_set_ne hik] at hk
        cases hj
        rcases hblock b hbj with hb | hb
        · exact absurd hb (hne k lk b hik hk hbk)
        · exact absurd (hi.lt hk hbk) (by omega)
    · rw [List.getElem?_set_ne hij] at hj
      by_cases hik : i = k
      · subst hik
        rw [List.getElem?_set_self hil] at hk
        cases hk
        rcases hblock b hbk with hb | hb
        · exact absurd hb (hne j lj b hij hj hbj)
        · exact absurd (hi.lt hj hbj) (by omega)
      · rw [List.getElem?_set_ne hik] at hk
        exact hi.apart j k lj lk b hj hk hbj hbk
  · intro gl cs hgl
    obtain ⟨vs, a, b⟩ := hi.glob gl cs hgl
    exact ⟨vs, a.mono hG, b.mono hG⟩
  · intro gl hgl
    obtain ⟨m, hm⟩ := hi.ints gl hgl
    exact ⟨m, hG _ _ _ hm⟩
  · intro b hb hno
    refine hkeep b hb fun hlb => hno ⟨i, l, h2, hlb⟩
  · rintro b ⟨j, lj, hj, hbj⟩
    by_cases hij : i = j
    · subst hij
      rw [List.getElem?_set_self hil] at hj
      cases hj
      rcases hblock b hbj with hb | hb
      · exact .inl ⟨i, l, h2, hb⟩
      · exact .inr hb
    · rw [List.getElem?_set_ne hij] at hj
      exact .inl ⟨j, lj, hj, hbj⟩
/-- No object moves: new frozen cells in new blocks. -/
theorem Inv.grow {g : Gh} {st : List (Ob T)} {w w' : World} (hi : Inv E g st w) {G' : Nat → Nat → Option Value}
    (hG : GLe g.G G') (hfro : ∀ b off v, G' b off = some v → w'.cell? ⟨b, off, none⟩ = some v)
    (hos : w'.os = w.os) (htape : w'.tape = w.tape) (hout : w'.output = w.output) (hsize : w.heap.size ≤ w'.heap.size)
    (hkeep : ∀ b, b < w.heap.size → w'.heap[b]? = w.heap[b]? ∧ ∀ off, G' b off = g.G b off) :
    Inv E ⟨G', g.M⟩ st w' ∧ Ext g ⟨G', g.M⟩ w w' ∧ g.Le ⟨G', g.M⟩ := by
  have hMle : g.Le ⟨G', g.M⟩ := ⟨hG, .refl _⟩
  refine ⟨⟨hfro, hi.len, ?_, hi.apart, ?_, ?_⟩, ⟨hG, hos, htape, hout, hsize, fun b hb _ => hkeep b hb, fun b hb => .inl hb⟩, hMle⟩
  · intro j obj lj hj hlj
    exact (hi.obs j obj lj hj hlj).mono hMle hsize fun b hb => hkeep b (hi.lt hlj hb)
  · intro gl cs hgl
    obtain ⟨vs, a, b⟩ := hi.glob gl cs hgl
    exact ⟨vs, a.mono hG, b.mono hG⟩
  · intro gl hgl
    obtain ⟨m, hm⟩ := hi.ints gl hgl
    exact ⟨m, hG _ _ _ hm⟩
/-- A place for a new object. -/
theorem Inv.dead {g : Gh} {st : List (Ob T)} {w : World} (hi : Inv E g st w) (n : Nat) :
    Inv E ⟨g.G, g.M ++ List.replicate n .none⟩ (st ++ List.replicate n .dead) w ∧ Ext g ⟨g.G, g.M ++ List.replicate n .none⟩ w w ∧ g.Le ⟨g.G, g.M ++ List.replicate n .none⟩ := by
  have hget : ∀ (j : Nat) (l : Loc), (g.M ++ List.replicate n Loc.none)[j]? = some l → g.M[j]? = some l ∨ (l = .none ∧ g.M.length ≤ j) := fun j l h => by
    rw [List.getElem?_append] at h
    split at h
    · exact .inl h
    · rw [List.getElem?_replicate] at h
      split at h
      · cases h; exact .inr ⟨rfl, by omega⟩
      · cases h
  have hle : g.Le ⟨g.G, g.M ++ List.replicate n .none⟩ := ⟨.refl _, fun j l h => ⟨l, by rw [List.getElem?_append_left (List.getElem?_eq_some_iff.1 h).1]; exact h, .refl _⟩⟩
  refine ⟨⟨hi.froz, by simp [hi.len], ?_, ?_, hi.glob, hi.ints⟩, ⟨.refl _, rfl, rfl, rfl, Nat.le_refl _, fun _ _ _ => ⟨rfl, fun _ => rfl⟩, ?_⟩, hle⟩
  · intro j obj lj hj hlj
    rcases hget j lj hlj with h | ⟨rfl, h⟩
    · have hjl : j < st.length := by rw [← hi.len]; exact (List.getElem?_eq_some_iff.1 h).1
      rw [List.getElem?_append_left hjl] at hj
      exact (hi.obs j obj lj hj h).mono hle (Nat.le_refl _) fun b hb => ⟨rfl, fun _ => rfl⟩
    · rw [List.getElem?_append_right (by rw [← hi.len]; exact h), List.getElem?_replicate] at hj
      split at hj
      · cases hj; simp [ObOk]
      · cases hj
  · intro j k lj lk b hj hk hbj hbk
    rcases hget j lj hj with h | ⟨rfl, h⟩
    · rcases hget k lk hk with h' | ⟨rfl, h'⟩
      · exact hi.apart j k lj lk b h h' hbj hbk
      · cases hbk
    · cases hbj
  · rintro b ⟨j, l, hj, hb⟩
    rcases hget j l hj with h | ⟨rfl, h⟩
    · exact .inl ⟨j, l, h, hb⟩
    · cases hb
end Go.Proofs.YtnenfgpjedddoaaGreat.AI
