/- Layer 10: numbers made anew: what stays the same. Plain. -/
import Derived.Test.YtnenfgpjedddoaaGreatAIL10k
set_option linter.unusedVariables false
set_option linter.unusedSimpArgs false
namespace Go.Proofs.YtnenfgpjedddoaaGreat.AI
open Go

/-- The new number. -/
def newN (b n : Int) : Int := IntKind.i64.wrap ((IntKind.i64.wrap (n + IntKind.i64.wrap b)).tmod 1000000 + 1)
def inN (n : Int) : Prop := 1 ≤ n ∧ n ≤ 1000000
def inB (b : Int) : Prop := 0 ≤ b ∧ b ≤ 65535
theorem newN_eq {b n : Int} (hb : inB b) (hn : inN n) : newN b n = if n + b < 1000000 then n + b + 1 else n + b - 1000000 + 1 := by
  unfold inB at hb
  unfold inN at hn
  unfold newN
  rw [wr (x := b) (by omega) (by omega), wr (x := n + b) (by omega) (by omega)]
  have : (n + b).tmod 1000000 = (n + b) % 1000000 := Int.tmod_eq_emod_of_nonneg (by omega)
  rw [this, wr (by omega) (by omega)]
  split <;> omega
theorem newN_in {b n : Int} (hb : inB b) (hn : inN n) : inN (newN b n) := by
  rw [newN_eq hb hn]
  unfold inB at hb
  unfold inN at hn ⊢
  split <;> omega
theorem newN_inj {b n m : Int} (hb : inB b) (hn : inN n) (hm : inN m) (h : newN b n = newN b m) : n = m := by
  rw [newN_eq hb hn, newN_eq hb hm] at h
  unfold inB at hb
  unfold inN at hn hm
  split at h <;> split at h <;> omega
mutual
def renE (b : Int) : S60 → S60
  | ⟨op, n, u, t, ks⟩ => ⟨op, if op = 3 then newN b n else n, u, t, renL b ks⟩
def renL (b : Int) : List S60 → List S60
  | [] => []
  | k :: ks => renE b k :: renL b ks
end
theorem renL_eq (b : Int) (l : List S60) : renL b l = l.map (renE b) := by
  induction l with
  | nil => rfl
  | cons k l ih => simp [renL, ih]
theorem renE_eq (b : Int) (e : S60) : renE b e = ⟨e.f0, if e.f0 = 3 then newN b e.f1 else e.f1, e.f2, e.f3, e.f4.map (renE b)⟩ := by
  cases e; simp only [renE, renL_eq]
theorem renE_0 (b : Int) (e : S60) : (renE b e).f0 = e.f0 := by rw [renE_eq]
theorem renE_1 (b : Int) (e : S60) : (renE b e).f1 = if e.f0 = 3 then newN b e.f1 else e.f1 := by rw [renE_eq]
theorem renE_2 (b : Int) (e : S60) : (renE b e).f2 = e.f2 := by rw [renE_eq]
theorem renE_3 (b : Int) (e : S60) : (renE b e).f3 = e.f3 := by rw [renE_eq]
theorem renE_4 (b : Int) (e : S60) : (renE b e).f4 = e.f4.map (renE b) := by rw [renE_eq]
def renA (b : Int) (a : S62) : S62 := ⟨newN b a.f0, a.f1, a.f2, a.f3, a.f4, a.f5, a.f6.map (renE b), a.f7.map (newN b), renE b a.f8⟩
def renC (b : Int) (c : S31) : S31 := ⟨c.f0, c.f1, c.f2.map (renA b)⟩
theorem okE_ren (b : Int) : ∀ e : S60, okE e → okE (renE b e) := by
  refine indE fun e ih oe => ?_
  obtain ⟨h1, h2, h3, h4⟩ := oe
  refine .mk ?_ ?_ ?_ ?_
  · rw [renE_4, List.length_map]; exact h1
  · rw [renE_3]; exact h2
  · rw [renE_4]
    intro k hk
    obtain ⟨k', hk', rfl⟩ := List.mem_map.1 hk
    exact ih k' hk' (h3 k' hk')
  · rw [renE_2]; exact h4
theorem okA_ren (b : Int) {a : S62} (oa : okA a) : okA (renA b a) := by
  have := oa.when
  have := oa.except
  have := oa.whenB
  have := oa.exceptB
  refine ⟨by simpa [renA] using oa.when, by simpa [renA] using oa.except, fun e he => ?_, okE_ren b _ oa.amount, by simpa [renA] using oa.whenB, by simpa [renA] using oa.exceptB⟩
  obtain ⟨e', he', rfl⟩ := List.mem_map.1 he
  exact okE_ren b _ (oa.whens _ he')
theorem okC_ren (b : Int) {c : S31} (oc : okC c) : okC (renC b c) := by
  refine ⟨oc.facts, oc.lines, by simpa [renC] using oc.arts, fun a ha => ?_, oc.okf, oc.okl⟩
  obtain ⟨a', ha', rfl⟩ := List.mem_map.1 ha
  exact okA_ren b (oc.art _ ha')
theorem nodes_ren (b : Int) : ∀ e : S60, nodes (renE b e) = nodes e := by
  refine indE fun e ih => ?_
  rw [nodes_eq, nodes_eq e, renE_4]
  congr 1
  generalize e.f4 = l at ih
  induction l with
  | nil => rfl
  | cons k l ihl =>
    simp only [List.map_cons, nodesL]
    rw [ih k (List.mem_cons_self ..), ihl fun k hk => ih k (List.mem_cons_of_mem _ hk)]
theorem depth_ren (b : Int) : ∀ e : S60, depthE (renE b e) = depthE e := by
  refine indE fun e ih => ?_
  rw [depthE_eq, depthE_eq e, renE_4]
  congr 1
  generalize e.f4 = l at ih
  induction l with
  | nil => rfl
  | cons k l ihl =>
    simp only [List.map_cons, depthL]
    rw [ih k (List.mem_cons_self ..), ihl fun k hk => ih k (List.mem_cons_of_mem _ hk)]
theorem getD_ren (b : Int) (l : List S60) (i : Nat) (h : i < l.length) : (l.map (renE b)).getD i d60 = renE b (l.getD i d60) := by
  rw [getD_at h, getD_at (by simpa using h)]; simp
theorem opOk_ren (b : Int) {e : S60} (h : opOk e) : opOk (renE b e) := by
  have g0 : 0 < e.f4.length → (k0 (renE b e)).f2 = (k0 e).f2 := fun h => by unfold k0; rw [renE_4, getD_ren _ _ _ h, renE_2]
  have g1 : 1 < e.f4.length → (k1 (renE b e)) = renE b (k1 e) := fun h => by unfold k1; rw [renE_4, getD_ren _ _ _ h]
  unfold opOk at h ⊢
  rw [renE_0, renE_2, renE_3]
  have hl : (renE b e).f4.length = e.f4.length := by rw [renE_4, List.length_map]
  rw [hl]
  split
  · rename_i h5
    rw [if_pos h5] at h
    rw [g0 (by omega)]; exact h
  · rename_i h5
    rw [if_neg h5] at h
    split
    · rename_i h18
      rw [if_pos h18] at h
      rw [g0 (by omega)]; exact h
    · rename_i h18
      rw [if_neg h18] at h
      split
      · rename_i h16
        rw [if_pos h16] at h
        rw [g0 (by omega)]
        refine ⟨h.1, fun k hk => ?_, h.2.2⟩
        rw [renE_4] at hk
        obtain ⟨k', hk', rfl⟩ := List.mem_map.1 hk
        rw [renE_2]; exact h.2.1 _ hk'
      · rename_i h16
        rw [if_neg h16] at h
        rw [g0 (by omega), g1 (by omega)]
        refine ⟨h.1, ?_⟩
        have h := h.2
        unfold binOk at h ⊢
        rw [renE_0, renE_1, renE_2]
        grind
/-- The articles' numbers are numbers, and the codex's expressions name its articles alone. -/
def numsC (c : S31) : Prop := ∀ a ∈ c.f2, inN a.f0
theorem lineL_in {l : List S62} (h : ∀ a ∈ l, inN a.f0) {n x : Int} (hl : lineL l n = some x) : inN n := by
  obtain ⟨a, ha, rfl, _⟩ := lineL_some hl
  exact h a ha
theorem lineL_ren {b : Int} (hb : inB b) : ∀ {l : List S62}, (∀ a ∈ l, inN a.f0) → ∀ {n}, inN n → lineL (l.map (renA b)) (newN b n) = lineL l n := by
  intro l
  induction l with
  | nil => intro _ n _; rfl
  | cons a l ih =>
    intro h n hn
    have h1 := h a (List.mem_cons_self ..)
    have ih := ih (fun a ha => h a (List.mem_cons_of_mem _ ha)) hn
    unfold lineL at ih ⊢
    simp only [List.map_cons, List.find?_cons]
    by_cases e : a.f0 = n
    · have e2 : (renA b a).f0 = newN b n := by rw [← e]; rfl
      simp only [e, e2, decide_true]
      rfl
    · have e2 : ¬ (renA b a).f0 = newN b n := fun h2 => e (newN_inj hb h1 hn h2)
      simp only [e, e2, decide_false]
      exact ih
theorem lineOf_ren {b : Int} (hb : inB b) {c : S31} (hc : numsC c) {n : Int} (hn : inN n) : lineOf (renC b c) (newN b n) = lineOf c n := by
  rw [lineOf_eq, lineOf_eq]; exact lineL_ren hb hc hn
theorem lineOf_in {c : S31} (hc : numsC c) {n x : Int} (h : lineOf c n = some x) : inN n := by
  rw [lineOf_eq] at h; exact lineL_in hc h
theorem leafOk_ren {b : Int} (hb : inB b) {c : S31} (hc : numsC c) {e : S60} (h : leafOk c e) : leafOk (renC b c) (renE b e) := by
  unfold leafOk at h ⊢
  rw [renE_0, renE_1, renE_2]
  by_cases h3 : e.f0 = 3
  · simp only [h3, if_true] at h ⊢
    simp only [show ¬ (3 : Int) = 1 by decide, show ¬ (3 : Int) = 2 by decide, if_false] at h ⊢
    obtain ⟨l, h1, h2⟩ := h
    exact ⟨l, by rw [lineOf_ren hb hc (lineOf_in hc h1)]; exact h1, h2⟩
  · simp only [h3, if_false] at h ⊢
    exact h
theorem nodeOk_ren {b : Int} (hb : inB b) {c : S31} (hc : numsC c) : ∀ {e : S60}, nodeOk c e → nodeOk (renC b c) (renE b e) := by
  intro e h
  induction h with
  | @mk e h hl ih =>
    refine .mk (fun k hk => ?_) ?_
    · rw [renE_4] at hk
      obtain ⟨k', hk', rfl⟩ := List.mem_map.1 hk
      exact ih k' hk'
    · unfold localOk at hl ⊢
      rw [renE_0, renE_1, renE_3, renE_4]
      refine ⟨hl.1, ?_⟩
      have h2 := hl.2
      split
      · rename_i h14
        rw [if_pos h14] at h2
        exact ⟨by rw [h2.1]; rfl, leafOk_ren hb hc h2.2⟩
      · rename_i h14
        rw [if_neg h14] at h2
        exact ⟨by rw [if_neg (by omega)]; exact h2.1, opOk_ren b h2.2⟩
theorem fits_ren {b : Int} (hb : inB b) {c : S31} (hc : numsC c) {e : S60} (h : fitsS c e) : fitsS (renC b c) (renE b e) := by
  refine ⟨?_, nodeOk_ren hb hc h.2⟩
  rw [nodes_ren, depth_ren]; exact h.1
theorem valid_nums {c : S31} {D : S62 → Prop} (h : validS D c) : numsC c := fun a ha => (h.2.2.2 a ha).2.2.1
theorem valid_ren {b : Int} (hb : inB b) {c : S31} (h : validS DC c) : validS DC (renC b c) := by
  have hc := valid_nums h
  refine ⟨h.1, h.2.1, by simpa [renC] using h.2.2.1, fun a ha => ?_⟩
  obtain ⟨a, ha', rfl⟩ := List.mem_map.1 ha
  obtain ⟨h1, h2, h3, h4, h5, h6, h7, h8, h9, h10, h11⟩ := h.2.2.2 a ha'
  refine ⟨h1, ?_, newN_in hb h3, h4, h5, h6, h7, fun n hn => ?_, fun e he => ?_, ?_, fits_ren hb hc h11⟩
  · show lineOf (renC b c) (newN b a.f0) = some a.f1
    rw [lineOf_ren hb hc h3]; exact h2
  · obtain ⟨n', hn', rfl⟩ := List.mem_map.1 hn
    have := h8 n' hn'
    obtain ⟨l, hl⟩ := Option.isSome_iff_exists.1 this
    rw [lineOf_ren hb hc (lineOf_in hc hl)]; exact this
  · obtain ⟨e', he', rfl⟩ := List.mem_map.1 he
    have := h9 e' he'
    exact ⟨by rw [renE_2]; exact this.1, fits_ren hb hc this.2⟩
  · show (renE b a.f8).f2 = _
    rw [renE_2]; exact h10
/-- The numbers of an expression that fits are numbers. -/
inductive numE : S60 → Prop
  | mk {e : S60} (h : ∀ k ∈ e.f4, numE k) (h3 : e.f0 = 3 → inN e.f1) : numE e
theorem nodeOk_num {c : S31} (hc : numsC c) : ∀ {e : S60}, nodeOk c e → numE e := by
  intro e h
  induction h with
  | @mk e h hl ih =>
    refine .mk ih fun h3 => ?_
    have := hl.2
    rw [if_pos (by omega)] at this
    have := this.2
    unfold leafOk at this
    rw [if_neg (by omega), if_neg (by omega), if_pos h3] at this
    obtain ⟨l, hl, _⟩ := this
    exact lineOf_in hc hl
theorem renE_inj {b : Int} (hb : inB b) : ∀ (e : S60), numE e → ∀ f, numE f → renE b e = renE b f → e = f := by
  refine indE fun e ih he f hf h => ?_
  cases he with
  | mk hek he3 =>
    cases hf with
    | mk hfk hf3 =>
      have e0 : e.f0 = f.f0 := by have := congrArg S60.f0 h; rwa [renE_0, renE_0] at this
      have e1 : e.f1 = f.f1 := by
        have := congrArg S60.f1 h
        rw [renE_1, renE_1, ← e0] at this
        by_cases h3 : e.f0 = 3
        · rw [if_pos h3, if_pos h3] at this
          exact newN_inj hb (he3 h3) (hf3 (e0 ▸ h3)) this
        · rwa [if_neg h3, if_neg h3] at this
      have e2 : e.f2 = f.f2 := by have := congrArg S60.f2 h; rwa [renE_2, renE_2] at this
      have e3 : e.f3 = f.f3 := by have := congrArg S60.f3 h; rwa [renE_3, renE_3] at this
      have e4 : e.f4.map (renE b) = f.f4.map (renE b) := by have := congrArg S60.f4 h; rwa [renE_4, renE_4] at this
      have e4 : e.f4 = f.f4 := by
        have hl : e.f4.length = f.f4.length := by have := congrArg List.length e4; simpa using this
        refine List.ext_getElem hl fun i h1 h2 => ?_
        have := List.getElem_of_eq e4 (i := i) (by simpa using h1)
        simp only [List.getElem_map] at this
        exact ih _ (List.getElem_mem h1) (hek _ (List.getElem_mem h1)) _ (hfk _ (List.getElem_mem h2)) this
      rw [S60.ext_iff']
      exact ⟨e0, e1, e2, e3, e4⟩
theorem ex_map {b : Int} {l : List S60} {p : S60 → Prop} : (∃ k ∈ l.map (renE b), p k) ↔ ∃ k ∈ l, p (renE b k) := by
  constructor
  · rintro ⟨k, hk, h⟩
    obtain ⟨k', hk', rfl⟩ := List.mem_map.1 hk
    exact ⟨k', hk', h⟩
  · rintro ⟨k, hk, h⟩
    exact ⟨_, List.mem_map_of_mem hk, h⟩
theorem men_ren {b : Int} (hb : inB b) {n : Int} (hn : inN n) : ∀ (e : S60), numE e → (Men (newN b n) (renE b e) ↔ Men n e) := by
  refine indE fun e ih he => ?_
  cases he with
  | mk hek he3 =>
    rw [Men_iff, Men_iff (e := e), renE_0, renE_1, renE_4]
    have h1 : (e.f0 = 3 ∧ (if e.f0 = 3 then newN b e.f1 else e.f1) = newN b n) ↔ e.f0 = 3 ∧ e.f1 = n := by
      refine ⟨fun h => ⟨h.1, ?_⟩, fun h => ⟨h.1, by rw [if_pos h.1, h.2]⟩⟩
      have h2 := h.2
      rw [if_pos h.1] at h2
      exact newN_inj hb (he3 h.1) hn h2
    have h2 : (∃ k ∈ e.f4.map (renE b), Men (newN b n) k) ↔ ∃ k ∈ e.f4, Men n k := by
      rw [ex_map]
      exact ⟨fun ⟨k, hk, h⟩ => ⟨k, hk, (ih k hk (hek k hk)).1 h⟩, fun ⟨k, hk, h⟩ => ⟨k, hk, (ih k hk (hek k hk)).2 h⟩⟩
    rw [h1, h2]
theorem sub_ren {b : Int} (hb : inB b) {l m : List S60} (hl : ∀ e ∈ l, numE e) (hm : ∀ e ∈ m, numE e) : subE (l.map (renE b)) (m.map (renE b)) = subE l m := by
  unfold subE
  refine dec_congr ⟨fun h x hx => ?_, fun h x hx => ?_⟩
  · obtain ⟨y, hy, he⟩ := List.mem_map.1 (h _ (List.mem_map_of_mem hx))
    have := renE_inj hb y (hl y hy) x (hm x hx) he
    exact this ▸ hy
  · obtain ⟨y, hy, rfl⟩ := List.mem_map.1 hx
    exact List.mem_map_of_mem (h y hy)
theorem beatsA_ren {b : Int} (hb : inB b) {x y : S62} (hx : inN x.f0) (hy : inN y.f0) (hx6 : ∀ e ∈ x.f6, numE e) (hy6 : ∀ e ∈ y.f6, numE e) : beatsA (renA b x) (renA b y) = beatsA x y := by
  have e1 : subE (renA b x).f6 (renA b y).f6 = subE x.f6 y.f6 := sub_ren hb hx6 hy6
  have e2 : subE (renA b y).f6 (renA b x).f6 = subE y.f6 x.f6 := sub_ren hb hy6 hx6
  have e3 : (renA b x).f0 = (renA b y).f0 ↔ x.f0 = y.f0 := ⟨newN_inj hb hx hy, fun h => by show newN b x.f0 = newN b y.f0; rw [h]⟩
  have r1 : (renA b x).f1 = x.f1 := rfl
  have r2 : (renA b x).f2 = x.f2 := rfl
  have r5 : (renA b x).f5 = x.f5 := rfl
  have s1 : (renA b y).f1 = y.f1 := rfl
  have s2 : (renA b y).f2 = y.f2 := rfl
  have s5 : (renA b y).f5 = y.f5 := rfl
  unfold beatsA
  simp only [e1, e2, e3, r1, r2, r5, s1, s2, s5]
theorem getD_renA (b : Int) (l : List S62) (i : Nat) (h : i < l.length) : (l.map (renA b)).getD i d62 = renA b (l.getD i d62) := by
  rw [getD_at h, getD_at (by simpa using h)]; simp
theorem when_num {c : S31} {D : S62 → Prop} (h : validS D c) {a : S62} (ha : a ∈ c.f2) : ∀ e ∈ a.f6, numE e := fun e he => nodeOk_num (valid_nums h) ((h.2.2.2 a ha).2.2.2.2.2.2.2.2.1 e he).2.2
theorem amount_num {c : S31} {D : S62 → Prop} (h : validS D c) {a : S62} (ha : a ∈ c.f2) : numE a.f8 := nodeOk_num (valid_nums h) (h.2.2.2 a ha).2.2.2.2.2.2.2.2.2.2.2
theorem beats_ren {b : Int} (hb : inB b) {c : S31} (h : validS DC c) (i k : Int) : beatsS (renC b c) i k = beatsS c i k := by
  unfold beatsS
  have hl : (renC b c).f2.length = c.f2.length := by simp [renC]
  rw [hl]
  by_cases hr : 0 ≤ i ∧ 0 ≤ k ∧ i < c.f2.length ∧ k < c.f2.length
  · rw [if_pos hr, if_pos hr]
    have h1 : i.toNat < c.f2.length := by omega
    have h2 : k.toNat < c.f2.length := by omega
    show beatsA ((c.f2.map (renA b)).getD i.toNat d62) ((c.f2.map (renA b)).getD k.toNat d62) = _
    rw [getD_renA _ _ _ h1, getD_renA _ _ _ h2, getD_at h1, getD_at h2]
    have m1 := List.getElem_mem h1
    have m2 := List.getElem_mem h2
    exact beatsA_ren hb (valid_nums h _ m1) (valid_nums h _ m2) (when_num h m1) (when_num h m2)
  · rw [if_neg hr, if_neg hr]
theorem asks_ren {b : Int} (hb : inB b) {c : S31} (h : validS DC c) {a : S62} (ha : a ∈ c.f2) {n : Int} (hn : inN n) : asks (renA b a) (newN b n) ↔ asks a n := by
  have hc := valid_nums h
  have h7 : ∀ m ∈ a.f7, inN m := fun m hm => by
    have := (h.2.2.2 a ha).2.2.2.2.2.2.2.1 m hm
    obtain ⟨l, hl⟩ := Option.isSome_iff_exists.1 this
    exact lineOf_in hc hl
  have hnum : ∀ e ∈ a.f6 ++ [a.f8], numE e := fun e he => by
    rw [List.mem_append, List.mem_singleton] at he
    rcases he with he | rfl
    · exact when_num h ha e he
    · exact amount_num h ha
  unfold asks
  have e1 : newN b n ∈ (renA b a).f7 ↔ n ∈ a.f7 := by
    show newN b n ∈ a.f7.map (newN b) ↔ _
    refine ⟨fun hm => ?_, fun hm => List.mem_map_of_mem hm⟩
    obtain ⟨m, hm, he⟩ := List.mem_map.1 hm
    exact newN_inj hb (h7 m hm) hn he ▸ hm
  have e2 : (renA b a).f6 ++ [(renA b a).f8] = (a.f6 ++ [a.f8]).map (renE b) := by simp [renA]
  rw [e1, e2]
  generalize a.f6 ++ [a.f8] = L at hnum
  have e3 : (∃ e ∈ L.map (renE b), Men (newN b n) e) ↔ ∃ e ∈ L, Men n e := by
    rw [ex_map]
    exact ⟨fun ⟨k, hk, h⟩ => ⟨k, hk, (men_ren hb hn k (hnum k hk)).1 h⟩, fun ⟨k, hk, h⟩ => ⟨k, hk, (men_ren hb hn k (hnum k hk)).2 h⟩⟩
  rw [e3]
theorem needP_ren {b : Int} (hb : inB b) {c : S31} (h : validS DC c) {v i : Nat} (hv : v < c.f2.length) (hi : i < c.f2.length) : needP (renC b c) v i = needP c v i := by
  unfold needP
  rw [beats_ren hb h]
  congr 1
  refine dec_congr ?_
  show asks ((c.f2.map (renA b)).getD v d62) ((c.f2.map (renA b)).getD i d62).f0 ↔ _
  rw [getD_renA _ _ _ hv, getD_renA _ _ _ hi, getD_at hv, getD_at hi]
  exact asks_ren hb h (List.getElem_mem hv) (valid_nums h _ (List.getElem_mem hi))
theorem needL_ren {b : Int} (hb : inB b) {c : S31} (h : validS DC c) {v : Nat} (hv : v < c.f2.length) : needL (renC b c) v c.f2.length = needL c v c.f2.length := by
  unfold needL
  congr 1
  refine List.filter_congr fun i hi => ?_
  exact needP_ren hb h hv (by simpa using hi)
end Go.Proofs.YtnenfgpjedddoaaGreat.AI
