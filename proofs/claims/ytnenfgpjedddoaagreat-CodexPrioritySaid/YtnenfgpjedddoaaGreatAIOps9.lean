/- Each operation does what the abstract interpreter says: append. -/
import Derived.Test.YtnenfgpjedddoaaGreatAIOps8
set_option linter.unusedVariables false
set_option linter.unusedSectionVars false
set_option linter.unusedSimpArgs false
namespace Go.Proofs.YtnenfgpjedddoaaGreat.AI
open Go

variable {K : Type} [DecidableEq K] {T : K → Type} {E : Env T} {P : Program}
section
variable {g : Gh} {st : List (Ob T)} {w : World} {fr : Fr T} {a : Act} (o : Oper)

/-- The cells of a list, as 'append' reads them. -/
theorem firstCells_ok (hE : EnvOk P E) (hi : Inv E g st w) {e : K} {ys : List (T e)} {xb : Option Addr} {m c : Nat} (h : Fc E g.G (.sl e ys .no) (.slice xb m c)) :
    ∃ news, Elems E g.G e ys news ∧ (Builtin.firstCells (E.size (E.num e)) m (.slice xb m c)).run P w = .ok ⟨news⟩ w := by
  have hm := h.len.1
  cases xb with
  | none => cases h; exact ⟨[], Elems.nil _ e, rfl⟩
  | some ad =>
    by_cases hsp : ∃ b off, ad = ⟨b, off, none⟩
    case neg =>
      cases h with
      | sl => exact absurd ⟨_, _, rfl⟩ hsp
      | sle => exact ⟨[], Elems.nil _ e, by simp [Builtin.firstCells, loadCells, loadCellsFrom]⟩
    obtain ⟨b, off, rfl⟩ := hsp
    obtain ⟨cs, h1, h2⟩ := h.elems hE
    refine ⟨cs, h1, ?_⟩
    have := run_loadAgg (P := P) (h2.at hi) (n := m * E.size (E.num e)) (by rw [h1.len, hm]; exact Nat.le_refl _)
    rw [show cs.take (m * E.size (E.num e)) = cs by rw [hm, ← h1.len, List.take_length]] at this
    simpa [Builtin.firstCells] using this

theorem append_room (hE : EnvOk P E) (hi : Inv E g st w) {t u ty : Nat} {e : K} (ht : P.underlying t = some (.slice (E.num e))) (hu : P.underlying u = some (.slice (E.num e))) {ys : List (T e)} {base xb : Option Addr} {n cap m c : Nat}
    {news : List Value} (hn : Elems E g.G e ys news) (hr : (Builtin.firstCells (E.size (E.num e)) m (.slice xb m c)).run P w = .ok ⟨news⟩ w) (hroom : n + m ≤ cap) {w' : World}
    (hst : ∀ ad, base = some ad → (storeCells (ad.add (n * E.size (E.num e))) news).run P w = .ok () w') (hbn : base = none → w' = w) :
    (Builtin.append_ #[t, u] ty #[.slice base n cap, .slice xb m c]).run P w = .ok (.slice base (n + m) cap) w' := by
  obtain ⟨inf, z, h1, h2, h3, h4, h5, h6, h7⟩ := hE.elem e
  cases base with
  | none =>
    have := hbn rfl
    subst this
    simp [Builtin.append_, run_underlying ht, run_underlying hu, run_sizeOf' h1, h3, Builtin.lenOf, hroom, hr]
  | some ad =>
    have := hst ad rfl
    simp [Builtin.append_, run_underlying ht, run_underlying hu, run_sizeOf' h1, h3, Builtin.lenOf, hroom, hr, this]

theorem Inv.drew (hi : Inv E g st w) : Inv E g st w.drew := ⟨hi.froz, hi.len, hi.obs, hi.apart, hi.glob, hi.ints⟩
theorem append_grow (hE : EnvOk P E) (hi : Inv E g st w) {t u ty : Nat} {e : K} (ht : P.underlying t = some (.slice (E.num e))) (hu : P.underlying u = some (.slice (E.num e))) {xs ys : List (T e)} {base xb : Option Addr} {n cap m c : Nat}
    {olds news : List Value} (ho : Elems E g.G e xs olds) (hor : (Builtin.firstCells (E.size (E.num e)) n (.slice base n cap)).run P w.drew = .ok ⟨olds⟩ w.drew) (hxn : n = xs.length) (hym : m = ys.length)
    (hn : Elems E g.G e ys news) (hr : (Builtin.firstCells (E.size (E.num e)) m (.slice xb m c)).run P w.drew = .ok ⟨news⟩ w.drew) (hfull : cap < n + m) (hb : (n + m) * E.bytes e ≤ 140737488355328) :
    ∃ nc w' rest, (Builtin.append_ #[t, u] ty #[.slice base n cap, .slice xb m c]).run P w = .ok (.slice (some ⟨w.heap.size, 0, none⟩) (n + m) nc) w' ∧ n + m ≤ nc ∧
      w'.heap = w.heap.push (.cells ⟨olds ++ news ++ rest⟩ (E.num e)) ∧ (olds ++ news ++ rest).length = nc * E.size (E.num e) ∧ w'.os = w.os ∧ w'.tape = w.tape ∧ w'.output = w.output := by
  obtain ⟨inf, z, h1, h2, h3, h4, h5, h6, h7⟩ := hE.elem e
  have hfit : Builtin.nextslicecap (n + m) cap * inf.bytes ≤ 281474976710656 := growslice_fits hfull (by rw [h5]; exact hb)
  have hnm : n + m ≤ 140737488355328 := by
    have : (n + m) * 1 ≤ (n + m) * E.bytes e := Nat.mul_le_mul_left _ (by omega)
    omega
  have hn' : ¬ (n + m ≤ cap) := by omega
  have h63' : ¬ (9223372036854775807 < ((n : Int) + (m : Int))) := by omega
  have h48' : ¬ (281474976710656 < Builtin.nextslicecap (n + m) cap * inf.bytes) := by omega
  have hge := grownCap_ge w (n + m) cap (E.num e)
  rw [← h3] at hor hr
  refine ⟨grownCap w (n + m) cap (E.num e), w.drew.alloc (.cells ⟨olds ++ news ++ (Builtin.zeroCells z.cells (grownCap w (n + m) cap (E.num e) - (n + m))).toList⟩ (E.num e)),
    (Builtin.zeroCells z.cells (grownCap w (n + m) cap (E.num e) - (n + m))).toList, ?_, hge, rfl, ?_, rfl, rfl, rfl⟩
  · simp [Builtin.append_, run_underlying ht, run_underlying hu, sizeOf, typeInfo, zeroValue, h1, h2, Builtin.lenOf, hn', h63', h48', Question.forced, hor, hr, newRow, grownCap]
    congr 2
    apply Array.ext'
    simp
  · have hz : (Builtin.zeroCells z.cells (grownCap w (n + m) cap (E.num e) - (n + m))).toList.length = (grownCap w (n + m) cap (E.num e) - (n + m)) * E.size (E.num e) := by
      rw [Array.length_toList, size_zeroCells, h4, h3]
    rw [List.length_append, List.length_append, ho.len, hn.len, hz, ← hxn, ← hym, ← Nat.add_mul, ← Nat.add_mul]
    congr 1
    omega

/-- Frozen cells besides. -/
def plus (G : Nat → Nat → Option Value) (b off : Nat) (vs : List Value) : Nat → Nat → Option Value := fun b' o' =>
  if b' = b ∧ off ≤ o' ∧ o' < off + vs.length then vs[o' - off]? else G b' o'
theorem plus_fz (G : Nat → Nat → Option Value) (b off : Nat) (vs : List Value) : Fz (plus G b off vs) b off vs := fun k v hv => by
  have hk : k < vs.length := (List.getElem?_eq_some_iff.1 hv).1
  unfold plus
  rw [if_pos ⟨rfl, by omega, by omega⟩]
  rwa [Nat.add_sub_cancel_left]
theorem plus_other {G : Nat → Nat → Option Value} {b off b' o' : Nat} {vs : List Value} (h : b' ≠ b) : plus G b off vs b' o' = G b' o' := by
  unfold plus
  rw [if_neg (fun hc => h hc.1)]
theorem plus_out {G : Nat → Nat → Option Value} {b off o' : Nat} {vs : List Value} (h : o' < off ∨ off + vs.length ≤ o') : plus G b off vs b o' = G b o' := by
  unfold plus
  rw [if_neg (fun hc => by omega)]
theorem plus_le {G : Nat → Nat → Option Value} {b off : Nat} {vs : List Value} (h : ∀ o', off ≤ o' → o' < off + vs.length → G b o' = none) : GLe G (plus G b off vs) := fun b' o' v hv => by
  unfold plus
  by_cases hc : b' = b ∧ off ≤ o' ∧ o' < off + vs.length
  · obtain ⟨rfl, h1, h2⟩ := hc
    rw [h o' h1 h2] at hv
    cases hv
  · rw [if_neg hc]; exact hv

/-- A new array for a list that has grown. -/
theorem grown_ok (hE : EnvOk P E) (hi : Inv E g st w) {p : Nat} {ob : Ob T} {l : Loc} {ver : Nat} (hp : st[p]? = some ob) (hM : g.M[p]? = some l) (hle : ∀ b n c, l.Le (.vec ver b n c true)) {e : K} {xs : List (T e)} {cells rest : List Value} {nc : Nat}
    {w' : World} (hel : Elems E g.G e xs cells) (hn : xs.length ≤ nc)
    (hh : w'.heap = w.heap.push (.cells ⟨cells ++ rest⟩ (E.num e))) (hl : (cells ++ rest).length = nc * E.size (E.num e)) (hos : w'.os = w.os) (htape : w'.tape = w.tape) (hout : w'.output = w.output) :
    ∃ g', To E g w g' (st.set p (.vec e ver)) w' ∧ Rep E g' (.sl e xs (.tok p ver)) (.slice (some ⟨w.heap.size, 0, none⟩) xs.length nc) := by
  have hG : GLe g.G (plus g.G w.heap.size 0 cells) := plus_le fun o' _ _ => hi.glt' (Nat.le_refl _)
  have hnew : w'.heap[w.heap.size]? = some (.cells ⟨cells ++ rest⟩ (E.num e)) := by rw [hh]; simp
  have hold : ∀ b, b < w.heap.size → w'.heap[b]? = w.heap[b]? := fun b hb => by rw [hh, Array.getElem?_push, if_neg (by omega)]
  have hstep := hi.step (w' := w') (ob' := .vec e ver) (l' := .vec ver (some ⟨w.heap.size, 0, none⟩) xs.length nc true) (G' := plus g.G w.heap.size 0 cells) hp hM (hle _ _ _) hG
    (fun b off v hv => by
      by_cases hb : b = w.heap.size
      · subst hb
        rw [cell?_cells hnew]
        by_cases ho : off < cells.length
        · unfold plus at hv
          rw [if_pos ⟨rfl, by omega, by omega⟩] at hv
          rw [List.getElem?_append_left ho]
          simpa using hv
        · rw [plus_out (by omega), hi.glt' (Nat.le_refl _)] at hv
          cases hv
      · rw [plus_other hb] at hv
        rw [cell?_block (hold b (hi.glt hv))]
        exact hi.froz b off v hv)
    hos htape hout (by rw [hh]; simp) (fun b hb _ => ⟨hold b hb, fun off => plus_other (by omega)⟩)
    (fun b hb => .inr (by simp only [Loc.block, Option.some.injEq] at hb; omega))
    ⟨rfl, hn, fun h => (by cases h), fun _ => ⟨w.heap.size, cells ++ rest, rfl, hnew, hl, fun off ho => by
      show plus g.G w.heap.size 0 cells w.heap.size off = none
      rw [plus_out (.inr (by rw [hel.len]; omega))]
      exact hi.glt' (Nat.le_refl _)⟩⟩
  refine ⟨_, ⟨hstep.2.2, hstep.1, hstep.2.1⟩, ?_⟩
  refine .sltok ((hel.mono hG).fc (plus_fz _ _ _ _) hn) (ver' := ver) (a' := some ⟨w.heap.size, 0, none⟩) (n' := xs.length) (cap' := nc) (m := true) ?_ (Nat.le_refl _) (fun _ => ⟨rfl, rfl, rfl⟩)
  simp [(List.getElem?_eq_some_iff.1 hM).1]

theorem listOf_ok {e : K} {x : V T} {ys : List (T e)} {p : Value} (hx : Rep E g x p) (h : listOf e x = some ys) : ∃ ad cap, Fc E g.G (.sl e ys .no) (.slice ad ys.length cap) ∧ p = .slice ad ys.length cap := by
  unfold listOf at h
  split at h
  · rename_i e' zs ow
    split at h
    · rename_i hee he
      subst hee
      simp only [Option.some.injEq] at h
      subst h
      obtain ⟨ad, cap, h1, h2⟩ := hx.sl_inv
      rw [h2] at h1
      exact ⟨ad, cap, h1, h2⟩
    · cases h
  · simp only [Option.some.injEq] at h
    subst h
    exact ⟨none, 0, .sl0 e, hx.nsl_inv⟩
  · cases h

/-- The arm that makes a new array. -/
theorem app_grow (hE : EnvOk P E) {t u ty : Nat} {e : K} (hi : Inv E g st w) (ht : P.underlying t = some (.slice (E.num e))) (hu : P.underlying u = some (.slice (E.num e))) {xs ys : List (T e)} {ad xb : Option Addr} {cap c : Nat}
    (hfx : Fc E g.G (.sl e xs .no) (.slice ad xs.length cap)) (hfy : Fc E g.G (.sl e ys .no) (.slice xb ys.length c)) (hfull : cap < xs.length + ys.length) (hb : (xs.length + ys.length) * E.bytes e ≤ 140737488355328)
    {p ver : Nat} {ob : Ob T} {l : Loc} (hp : st[p]? = some ob) (hM : g.M[p]? = some l) (hle : ∀ b n c, l.Le (.vec ver b n c true)) {r : Result Next}
    (hr : ∀ v w', (Builtin.append_ #[t, u] ty #[.slice ad xs.length cap, .slice xb ys.length c]).run P w = .ok v w' → r = .ok (.value v) w') : Gives E g w r (st.set p (.vec e ver)) (.sl e (xs ++ ys) (.tok p ver)) := by
  obtain ⟨olds, ho, hor⟩ := firstCells_ok hE hi.drew hfx
  obtain ⟨news, hn, hnr⟩ := firstCells_ok hE hi.drew hfy
  obtain ⟨nc, w', rest, h1, h2, h3, h4, h5, h6, h7⟩ := append_grow (ty := ty) hE hi ht hu ho hor rfl rfl hn hnr hfull hb
  obtain ⟨g', h8, h9⟩ := grown_ok hE hi hp hM hle (ho.append hn) (by rw [List.length_append]; exact h2) h3 h4 h5 h6 h7
  rw [List.length_append] at h9
  exact ⟨g', w', _, hr _ _ h1, h8, h9⟩
/-- Nothing is appended. -/
theorem app_none (hE : EnvOk P E) {t u ty : Nat} {e : K} (hi : Inv E g st w) (ht : P.underlying t = some (.slice (E.num e))) (hu : P.underlying u = some (.slice (E.num e))) {xs : List (T e)} {ad xb : Option Addr} {cap c : Nat}
    (hfx : Fc E g.G (.sl e xs .no) (.slice ad xs.length cap)) (hfy : Fc E g.G (.sl e ([] : List (T e)) .no) (.slice xb 0 c))
    {p ver : Nat} {ob : Ob T} {l l' : Loc} (hp : st[p]? = some ob) (hM : g.M[p]? = some l) (mine : Bool) (hl' : l' = .vec ver ad xs.length cap mine) (hle : l.Le l') (hblk : ∀ b, l'.block = some b → l.block = some b) (hok : ObOk E ⟨g.G, g.M.set p l'⟩ w (.vec e ver) l') {r : Result Next}
    (hr : ∀ v w', (Builtin.append_ #[t, u] ty #[.slice ad xs.length cap, .slice xb 0 c]).run P w = .ok v w' → r = .ok (.value v) w') : Gives E g w r (st.set p (.vec e ver)) (.sl e xs (.tok p ver)) := by
  obtain ⟨news, hn, hnr⟩ := firstCells_ok hE hi hfy
  have hnil : news = [] := List.eq_nil_of_length_eq_zero (by rw [hn.len]; simp)
  subst hnil
  have hrun := append_room (ty := ty) (n := xs.length) (cap := cap) (base := ad) (w' := w) hE hi ht hu hn hnr (by simpa using hfx.len.2) (fun ad' _ => rfl) (fun _ => rfl)
  have hstep := hi.step (w' := w) (ob' := .vec e ver) (l' := l') (G' := g.G) hp hM hle (.refl _) hi.froz rfl rfl rfl (Nat.le_refl _) (fun b _ _ => ⟨rfl, fun _ => rfl⟩) (fun b hb => .inl (hblk b hb)) hok
  refine ⟨_, w, _, hr _ _ hrun, ⟨hstep.2.2, hstep.1, hstep.2.1⟩, ?_⟩
  subst hl'
  refine .sltok hfx (ver' := ver) (a' := ad) (n' := xs.length) (cap' := cap) (m := mine) ?_ (Nat.le_refl _) (fun _ => ⟨rfl, rfl, rfl⟩)
  simp [(List.getElem?_eq_some_iff.1 hM).1]
/-- The arm that writes behind the list. -/
theorem app_room (hE : EnvOk P E) {t u ty : Nat} {e : K} (hi : Inv E g st w) (ht : P.underlying t = some (.slice (E.num e))) (hu : P.underlying u = some (.slice (E.num e))) {xs ys : List (T e)} {b : Nat} {xb : Option Addr} {cap c ver : Nat}
    (hfx : Fc E g.G (.sl e xs .no) (.slice (some ⟨b, 0, none⟩) xs.length cap)) (hfy : Fc E g.G (.sl e ys .no) (.slice xb ys.length c)) (hroom : xs.length + ys.length ≤ cap)
    {p : Nat} (hp : st[p]? = some (.vec e ver)) (hM : g.M[p]? = some (.vec ver (some ⟨b, 0, none⟩) xs.length cap true)) {r : Result Next}
    (hr : ∀ v w', (Builtin.append_ #[t, u] ty #[.slice (some ⟨b, 0, none⟩) xs.length cap, .slice xb ys.length c]).run P w = .ok v w' → r = .ok (.value v) w') :
    Gives E g w r (st.set p (.vec e (ver + 1))) (.sl e (xs ++ ys) (.tok p (ver + 1))) := by
  obtain ⟨inf, z, _, _, h3, _, _, _, h7⟩ := hE.elem e
  obtain ⟨news, hn, hnr⟩ := firstCells_ok hE hi hfy
  obtain ⟨olds, ho, hoz⟩ := hfx.elems hE
  obtain ⟨_, _, _, hok⟩ := hi.obs p _ _ hp hM
  obtain ⟨b', vs, hb', hv1, hv2, hv3⟩ := hok rfl
  simp only [Option.some.injEq, Addr.mk.injEq, and_true] at hb'
  subst hb'
  have hsz : 0 < E.size (E.num e) := by rw [← h3]; exact h7
  have hone := hn.one hsz
  have hfit : xs.length * E.size (E.num e) + news.length ≤ vs.length := by
    rw [hn.len, hv2, ← Nat.add_mul]
    exact Nat.mul_le_mul_right _ hroom
  have hst : (storeCells ⟨b, 0 + xs.length * E.size (E.num e), none⟩ news).run P w = .ok () (w.setCells b (0 + xs.length * E.size (E.num e) + 0) news) :=
    run_storeCells_cells b (0 + xs.length * E.size (E.num e)) news 0 w (fun j hj => by
      rw [cell?_cells hv1]
      have : xs.length * E.size (E.num e) + j < vs.length := by omega
      simp [this]) (fun j hj => by simp [World.frozen?, hv1]) hone
  simp only [Nat.zero_add, Nat.add_zero] at hst
  have hrun := append_room (ty := ty) (n := xs.length) (cap := cap) (base := some ⟨b, 0, none⟩) (w' := w.setCells b (xs.length * E.size (E.num e)) news) hE hi ht hu hn hnr hroom
    (fun ad had => by
      simp only [Option.some.injEq] at had
      subst had
      rw [Addr.add_mk, Nat.zero_add]
      exact hst) (fun h => by cases h)
  have hheap := setCells_heap news vs _ w hv1 hfit
  obtain ⟨e1, e2, e3, e4⟩ := setCells_rest (b := b) news (xs.length * E.size (E.num e)) w
  have hG : GLe g.G (plus g.G b (xs.length * E.size (E.num e)) news) := plus_le fun o' h1 _ => hv3 o' h1
  have hstep := hi.step (w' := w.setCells b (xs.length * E.size (E.num e)) news) (ob' := .vec e (ver + 1)) (l' := .vec (ver + 1) (some ⟨b, 0, none⟩) (xs.length + ys.length) cap true) (G' := plus g.G b (xs.length * E.size (E.num e)) news)
    hp hM ⟨by omega, fun h => by omega⟩ hG
    (fun b2 off v hv => by
      by_cases hb : b2 = b
      · subst hb
        rw [cell?_cells hheap, spliced_get hfit]
        by_cases hin : xs.length * E.size (E.num e) ≤ off ∧ off < xs.length * E.size (E.num e) + news.length
        · rw [if_pos hin]
          unfold plus at hv
          rwa [if_pos ⟨rfl, hin⟩] at hv
        · rw [if_neg hin, ← cell?_cells hv1]
          rw [plus_out (by omega)] at hv
          exact hi.froz _ _ _ hv
      · rw [plus_other hb] at hv
        rw [cell?_block (setCells_other hb _ _ _)]
        exact hi.froz _ _ _ hv)
    e1 e2 e3 (by omega) (fun b2 hb2 hne => ⟨setCells_other (fun e => hne (by rw [e]; rfl)) _ _ _, fun off => plus_other (fun e => hne (by rw [e]; rfl))⟩) (fun b2 hb2 => .inl hb2)
    ⟨rfl, hroom, fun h => (by cases h), fun _ => ⟨b, _, rfl, hheap, by rw [spliced_length hfit]; exact hv2, fun off ho' => by
      show plus g.G b (xs.length * E.size (E.num e)) news b off = none
      rw [Nat.add_mul] at ho'
      rw [plus_out (.inr (by rw [hn.len]; omega))]
      exact hv3 off (by omega)⟩⟩
  refine ⟨_, _, _, hr _ _ hrun, ⟨hstep.2.2, hstep.1, hstep.2.1⟩, ?_⟩
  have hfz : Fz (plus g.G b (xs.length * E.size (E.num e)) news) b 0 (olds ++ news) := fun k v hv => by
    rw [List.getElem?_append] at hv
    split at hv
    · exact hG _ _ _ (hoz k v hv)
    · rename_i hk
      have := plus_fz g.G b (xs.length * E.size (E.num e)) news _ v hv
      have hlen := ho.len
      rwa [show xs.length * E.size (E.num e) + (k - olds.length) = 0 + k by omega] at this
  have hel := ((ho.append hn).mono hG).fc (cap := cap) hfz (by rw [List.length_append]; exact hroom)
  rw [List.length_append] at hel
  refine .sltok hel (ver' := ver + 1) (a' := some ⟨b, 0, none⟩) (n' := xs.length + ys.length) (cap' := cap) (m := true) ?_ (Nat.le_refl _) (fun _ => ⟨rfl, rfl, rfl⟩)
  simp [(List.getElem?_eq_some_iff.1 hM).1]

theorem append_ok (hE : EnvOk P E) {t u ty : Nat} {e0 e1 : K} (hi : Inv E g st w) (ht : E.ty t = .slice e0) (hu : E.ty u = .slice e1) {s x : V T} {p q : Value} (hs : Rep E g s p) (hx : Rep E g x q) {k : Ask T} (h : appendV E e0 e1 s x = some k)
    {r : Result Next} (hr : ∀ v w', (Builtin.append_ #[t, u] ty #[p, q]).run P w = .ok v w' → r = .ok (.value v) w') : SoundAsk P E g st w r k := by
  have htt := hE.ty t
  rw [ht] at htt
  have htu := hE.ty u
  rw [hu] at htu
  unfold appendV at h
  split at h
  case h_2 => cases h
  rename_i e xs ow
  split at h
  case h_2 => cases h
  rename_i ys hys he
  simp only [Bool.and_eq_true, decide_eq_true_eq] at he
  obtain ⟨rfl, rfl⟩ := he
  obtain ⟨xb, c, hf, rfl⟩ := listOf_ok hx hys
  have fresh : ∀ {ad : Option Addr}, p = .slice ad xs.length xs.length → Fc E g.G (.sl e xs .no) (.slice ad xs.length xs.length) → fits E e xs ys = true → ∀ m, st[m]? = some .dead →
      Gives E g w r (st.set m (.vec e 0)) (.sl e (xs ++ ys) (.tok m 0)) := by
    intro ad hp hfx hb m hm
    subst hp
    have hb' : (xs.length + ys.length) * E.bytes e ≤ 140737488355328 := of_decide_eq_true hb
    by_cases hy : ys = []
    · subst hy
      rw [List.append_nil]
      exact app_none (l' := .vec 0 ad xs.length xs.length false) hE hi htt.1 htu.1 hfx hf hm (hi.dead_loc hm) false rfl trivial (fun b hb => by cases ad <;> cases hb) ⟨rfl, Nat.le_refl _, fun _ => rfl, fun h => by cases h⟩ hr
    · have : 0 < ys.length := List.length_pos_iff.2 hy
      exact app_grow (ver := 0) hE hi htt.1 htu.1 hfx hf (by omega) hb' hm (hi.dead_loc hm) (fun _ _ _ => trivial) hr
  split at h
  · simp only [Option.some.injEq] at h
    subst h
    intro hb m hm
    obtain ⟨h1, h2⟩ := hs.nil_slice
    subst h2
    exact fresh h1 (.sl0 _) hb m hm
  · simp only [Option.some.injEq] at h
    subst h
    intro hb m hm
    cases hs with
    | fc h => cases h
    | slfull h =>
      have := h.len.1
      subst this
      exact fresh rfl h hb m hm
  · rename_i i ver
    simp only [Option.some.injEq] at h
    subst h
    intro ob ob' v hob hk
    unfold appTok at hk
    split at hk
    · rename_i e' ver'
      split at hk
      · rename_i hck
        simp only [Bool.and_eq_true, decide_eq_true_eq] at hck
        obtain ⟨hv, rfl⟩ := hck
        have hv' := Nat.eq_of_beq_eq_true hv
        subst hv'
        simp only [Option.some.injEq, Prod.mk.injEq] at hk
        obtain ⟨hb, rfl, rfl⟩ := hk
        have hb' : (xs.length + ys.length) * E.bytes e ≤ 140737488355328 := of_decide_eq_true hb
        cases hs with
        | fc h => cases h
        | @sltok _ _ ad n cap _ _ ver'' a' n' cap' mine hfx hM hle heq =>
          have hok := hi.obs i _ _ hob hM
          have hver : ver = ver'' := hok.1
          subst hver
          obtain ⟨rfl, rfl, rfl⟩ := heq rfl
          have := hfx.len.1
          subst this
          by_cases hy : ys = []
          · subst hy
            rw [List.append_nil]
            refine app_none (l' := .vec (ver + 1) a' xs.length cap' mine) hE hi htt.1 htu.1 hfx hf hob hM mine rfl ⟨by omega, fun h => by omega⟩ (fun b hb => by cases mine <;> cases a' <;> exact hb) ?_ hr
            exact ⟨rfl, hok.2.1, hok.2.2.1, hok.2.2.2⟩
          · have hpos : 0 < ys.length := List.length_pos_iff.2 hy
            by_cases hroom : xs.length + ys.length ≤ cap'
            · cases mine with
              | false =>
                have := hok.2.2.1 rfl
                omega
              | true =>
                obtain ⟨b, vs, rfl, _⟩ := hok.2.2.2 rfl
                exact app_room hE hi htt.1 htu.1 hfx hf hroom hob hM hr
            · exact app_grow (ver := ver + 1) hE hi htt.1 htu.1 hfx hf (by omega) hb' hob hM (fun _ _ _ => ⟨by omega, fun h => by omega⟩) hr
      · cases hk
    · cases hk
  · cases h
end
end Go.Proofs.YtnenfgpjedddoaaGreat.AI
