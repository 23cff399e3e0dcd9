/- What the abstract interpreter's values stand for: frozen cells, places of objects, and what holds of a world. -/
import Derived.Test.YtnenfgpjedddoaaGreatAIDefs
import Derived.Below
set_option linter.unusedVariables false
set_option linter.unusedSectionVars false
namespace Go.Proofs.YtnenfgpjedddoaaGreat.AI
open Go

variable {K : Type} [DecidableEq K] {T : K → Type}

/-- From here on these cells hold these values. -/
def Fz (G : Nat → Nat → Option Value) (b off : Nat) (vs : List Value) : Prop := ∀ k v, vs[k]? = some v → G b (off + k) = some v

mutual
/-- A cell that stands for plain data: lists lie in frozen memory. -/
inductive Fc (E : Env T) (G : Nat → Nat → Option Value) : V T → Value → Prop where
  | int (k x) : Fc E G (.int k x) (.int k x)
  | bool (b) : Fc E G (.bool b) (.bool b)
  | str (s) : Fc E G (.str s) (.string ⟨⟨s⟩⟩)
  | sl0 (e) : Fc E G (.sl e [] .no) (.slice none 0 0)
  | sle (e a cap) : Fc E G (.sl e [] .no) (.slice (some a) 0 cap)
  | sl (e xs b off cap) (css : Nat → List Value) (hc : xs.length ≤ cap) (h : ∀ i x, xs[i]? = some x → Fcs E G (E.enc e x) (css i))
      (hz : ∀ i x, xs[i]? = some x → Fz G b (off + i * E.size (E.num e)) (css i)) : Fc E G (.sl e xs .no) (.slice (some ⟨b, off, none⟩) xs.length cap)
inductive Fcs (E : Env T) (G : Nat → Nat → Option Value) : List (V T) → List Value → Prop where
  | nil : Fcs E G [] []
  | cons {v x vs xs} (h : Fc E G v x) (hs : Fcs E G vs xs) : Fcs E G (v :: vs) (x :: xs)
end

/-- Where an object lies. -/
inductive Loc where
  | none
  | box (b : Nat)
  | arr (b n sz : Nat)
  | vec (ver : Nat) (a : Option Addr) (len cap : Nat) (mine : Bool)
  | map (r : Nat) (bs : List (Value × Nat))
  | iter (r : Nat)

structure Gh where
  G : Nat → Nat → Option Value
  M : List Loc

/-- Each value fills one cell. -/
def One (vs : List Value) : Prop := ∀ x ∈ vs, x.oneCell' = true
mutual
inductive Rep (E : Env T) (g : Gh) : V T → Value → Prop where
  | fc {v x} (h : Fc E g.G v x) : Rep E g v x
  | slnil (e) : Rep E g (.sl e [] .nil) (.slice none 0 0)
  | slfull {e xs a n} (h : Fc E g.G (.sl e xs .no) (.slice a n n)) : Rep E g (.sl e xs .full) (.slice a n n)
  | sltok {e xs a n cap i ver ver' a' n' cap' m} (h : Fc E g.G (.sl e xs .no) (.slice a n cap)) (hm : g.M[i]? = some (.vec ver' a' n' cap' m)) (hv : ver ≤ ver')
      (he : ver = ver' → a' = a ∧ n' = n ∧ cap' = cap) : Rep E g (.sl e xs (.tok i ver)) (.slice a n cap)
  | nsl : Rep E g .nsl (.slice none 0 0)
  | agg {cs vs} (h : Reps E g cs vs) (h1 : One vs) : Rep E g (.agg cs) (.agg ⟨vs⟩)
  | ptr {i b off} (h : g.M[i]? = some (.box b)) : Rep E g (.ptr i off) (.pointer (some ⟨b, off, none⟩))
  | npt : Rep E g .npt (.pointer none)
  | adr {cs vs b off} (h : Fcs E g.G cs vs) (hz : Fz g.G b off vs) : Rep E g (.adr cs) (.pointer (some ⟨b, off, none⟩))
  | asl {i b n sz} (h : g.M[i]? = some (.arr b n sz)) : Rep E g (.asl i) (.slice (some ⟨b, 0, none⟩) n n)
  | elt {i j off b n sz} (h : g.M[i]? = some (.arr b n sz)) (hj : j < n) : Rep E g (.elt i j off) (.pointer (some ⟨b, j * sz + off, none⟩))
  | map {i r bs} (h : g.M[i]? = some (.map r bs)) : Rep E g (.map i) (.map (some r))
  | nmp : Rep E g .nmp (.map none)
  | fn {f a c as cs} (ha : Reps E g a as) (hc : Reps E g c cs) : Rep E g (.fn f a c) (.func (.func f) ⟨as⟩ ⟨cs⟩)
  | nfn : Rep E g .nfn .nilFunc
  | ifc {t v x} (h : Rep E g v x) : Rep E g (.ifc t v) (.iface t x)
  | nif : Rep E g .nif .nilIface
  | tup {vs xs} (h : Reps E g vs xs) : Rep E g (.tup vs) (.tuple ⟨xs⟩)
  | stamp {i r bs k kv} {born : Nat} (h : g.M[i]? = some (.map r bs)) (hk : Rep E g k kv) (hb : (kv, born) ∈ bs) : Rep E g (.stamp i k) (.int .i64 born)
  | itr {i r} (h : g.M[i]? = some (.iter r)) : Rep E g (.itr i) (.pointer (some ⟨r, 0, none⟩))
  | und : Rep E g .und undef
inductive Reps (E : Env T) (g : Gh) : List (V T) → List Value → Prop where
  | nil : Reps E g [] []
  | cons {v x vs xs} (h : Rep E g v x) (hs : Reps E g vs xs) : Reps E g (v :: vs) (x :: xs)
end

/-! ### More frozen cells, places that have moved on -/
def GLe (G G' : Nat → Nat → Option Value) : Prop := ∀ b off v, G b off = some v → G' b off = some v
def Loc.Le : Loc → Loc → Prop
  | .none, _ => True
  | .vec ver a n cap m, .vec ver' a' n' cap' m' => ver ≤ ver' ∧ (ver = ver' → a' = a ∧ n' = n ∧ cap' = cap)
  | .map r bs, .map r' bs' => r = r' ∧ ∀ p ∈ bs, p ∈ bs'
  | l, l' => l = l'
def MLe (M M' : List Loc) : Prop := ∀ (i : Nat) (l : Loc), M[i]? = some l → ∃ l', M'[i]? = some l' ∧ l.Le l'
structure Gh.Le (g g' : Gh) : Prop where
  G : GLe g.G g'.G
  M : MLe g.M g'.M

theorem Loc.Le.refl (l : Loc) : l.Le l := by
  cases l <;> simp [Loc.Le]
theorem Loc.Le.trans {a b c : Loc} (h : a.Le b) (k : b.Le c) : a.Le c := by
  cases a <;> cases b <;> cases c <;> simp_all [Loc.Le]
  case vec.vec.vec v a n cp m v' a' n' cp' m' v'' a'' n'' cp'' m'' =>
    refine ⟨Nat.le_trans h.1 k.1, fun e => ?_⟩
    have e1 : v = v' := by omega
    have e2 : v' = v'' := by omega
    obtain ⟨p1, p2, p3⟩ := h.2 e1
    obtain ⟨q1, q2, q3⟩ := k.2 e2
    exact ⟨q1.trans p1, q2.trans p2, q3.trans p3⟩
theorem MLe.refl (M : List Loc) : MLe M M := fun i l h => ⟨l, h, .refl l⟩
theorem MLe.trans {A B C : List Loc} (h : MLe A B) (k : MLe B C) : MLe A C := fun i l hl =>
  let ⟨l', h1, h2⟩ := h i l hl
  let ⟨l'', h3, h4⟩ := k i l' h1
  ⟨l'', h3, h2.trans h4⟩
theorem GLe.refl (G : Nat → Nat → Option Value) : GLe G G := fun _ _ _ h => h
theorem GLe.trans {A B C : Nat → Nat → Option Value} (h : GLe A B) (k : GLe B C) : GLe A C := fun b o v hv => k b o v (h b o v hv)
theorem Gh.Le.refl (g : Gh) : g.Le g := ⟨.refl _, .refl _⟩
theorem Gh.Le.trans {a b c : Gh} (h : a.Le b) (k : b.Le c) : a.Le c := ⟨h.G.trans k.G, h.M.trans k.M⟩

theorem Fz.mono {G G' : Nat → Nat → Option Value} (h : GLe G G') {b off : Nat} {vs : List Value} (hz : Fz G b off vs) : Fz G' b off vs :=
  fun k v hv => h _ _ _ (hz k v hv)
mutual
theorem Fc.mono {E : Env T} {G G' : Nat → Nat → Option Value} (h : GLe G G') : ∀ {v : V T} {x : Value}, Fc E G v x → Fc E G' v x
  | _, _, .int k x => .int k x
  | _, _, .bool b => .bool b
  | _, _, .str s => .str s
  | _, _, .sl0 e => .sl0 e
  | _, _, .sle e a cap => .sle e a cap
  | _, _, .sl e xs b off cap css hc hs hz => .sl e xs b off cap css hc (fun i x hx => Fcs.mono h (hs i x hx)) (fun i x hx => Fz.mono h (hz i x hx))
theorem Fcs.mono {E : Env T} {G G' : Nat → Nat → Option Value} (h : GLe G G') : ∀ {v : List (V T)} {x : List Value}, Fcs E G v x → Fcs E G' v x
  | _, _, .nil => .nil
  | _, _, .cons a b => .cons (Fc.mono h a) (Fcs.mono h b)
end
mutual
theorem Rep.mono {E : Env T} {g g' : Gh} (h : g.Le g') : ∀ {v : V T} {x : Value}, Rep E g v x → Rep E g' v x
  | _, _, .fc a => .fc (a.mono h.G)
  | _, _, .slnil e => .slnil e
  | _, _, .slfull a => .slfull (a.mono h.G)
  | _, _, .sltok (ver := ver) (ver' := ver') a hm hv he => by
    obtain ⟨l', h1, h2⟩ := h.M _ _ hm
    cases l' <;> simp only [Loc.Le] at h2 <;> try (cases h2; done)
    refine .sltok (a.mono h.G) h1 (Nat.le_trans hv h2.1) fun e => ?_
    have e1 : ver = ver' := by omega
    obtain ⟨p1, p2, p3⟩ := he e1
    obtain ⟨q1, q2, q3⟩ := h2.2 (by omega)
    exact ⟨q1.trans p1, q2.trans p2, q3.trans p3⟩
  | _, _, .nsl => .nsl
  | _, _, .agg a h1 => .agg (Reps.mono h a) h1
  | _, _, .ptr hm => by
    obtain ⟨l', h1, h2⟩ := h.M _ _ hm
    cases l' <;> simp only [Loc.Le] at h2 <;> cases h2
    exact .ptr h1
  | _, _, .npt => .npt
  | _, _, .adr a hz => .adr (a.mono h.G) (hz.mono h.G)
  | _, _, .asl hm => by
    obtain ⟨l', h1, h2⟩ := h.M _ _ hm
    cases l' <;> simp only [Loc.Le] at h2 <;> cases h2
    exact .asl h1
  | _, _, .elt hm hj => by
    obtain ⟨l', h1, h2⟩ := h.M _ _ hm
    cases l' <;> simp only [Loc.Le] at h2 <;> cases h2
    exact .elt h1 hj
  | _, _, .map hm => by
    obtain ⟨l', h1, h2⟩ := h.M _ _ hm
    cases l' <;> simp only [Loc.Le] at h2 <;> try (cases h2; done)
    obtain ⟨rfl, _⟩ := h2
    exact .map h1
  | _, _, .nmp => .nmp
  | _, _, .fn a c => .fn (Reps.mono h a) (Reps.mono h c)
  | _, _, .nfn => .nfn
  | _, _, .ifc a => .ifc (Rep.mono h a)
  | _, _, .nif => .nif
  | _, _, .tup a => .tup (Reps.mono h a)
  | _, _, .stamp hm hk hb => by
    obtain ⟨l', h1, h2⟩ := h.M _ _ hm
    cases l' <;> simp only [Loc.Le] at h2 <;> try (cases h2; done)
    obtain ⟨rfl, h3⟩ := h2
    exact .stamp h1 (Rep.mono h hk) (h3 _ hb)
  | _, _, .itr hm => by
    obtain ⟨l', h1, h2⟩ := h.M _ _ hm
    cases l' <;> simp only [Loc.Le] at h2 <;> cases h2
    exact .itr h1
  | _, _, .und => .und
theorem Reps.mono {E : Env T} {g g' : Gh} (h : g.Le g') : ∀ {v : List (V T)} {x : List Value}, Reps E g v x → Reps E g' v x
  | _, _, .nil => .nil
  | _, _, .cons a b => .cons (Rep.mono h a) (Reps.mono h b)
end

theorem Fcs.reps {E : Env T} {g : Gh} : ∀ {vs : List (V T)} {xs : List Value}, Fcs E g.G vs xs → Reps E g vs xs
  | _, _, .nil => .nil
  | _, _, .cons a b => .cons (.fc a) (Fcs.reps b)
theorem Reps.length {E : Env T} {g : Gh} : ∀ {vs : List (V T)} {xs : List Value}, Reps E g vs xs → vs.length = xs.length
  | _, _, .nil => rfl
  | _, _, .cons _ b => by simp [Reps.length b]
theorem Fcs.length {E : Env T} {G} : ∀ {vs : List (V T)} {xs : List Value}, Fcs E G vs xs → vs.length = xs.length
  | _, _, .nil => rfl
  | _, _, .cons _ b => by simp [Fcs.length b]
theorem Reps.get {E : Env T} {g : Gh} : ∀ {vs : List (V T)} {xs : List Value} {i : Nat} {v : V T}, Reps E g vs xs → vs[i]? = some v → ∃ x, xs[i]? = some x ∧ Rep E g v x
  | _, _, 0, v, .cons a b, h => by simp at h; subst h; exact ⟨_, rfl, a⟩
  | _, _, i + 1, v, .cons a b, h => by simpa using Reps.get b (by simpa using h)
  | _, _, i, v, .nil, h => by simp at h
theorem Fcs.get {E : Env T} {G} : ∀ {vs : List (V T)} {xs : List Value} {i : Nat} {v : V T}, Fcs E G vs xs → vs[i]? = some v → ∃ x, xs[i]? = some x ∧ Fc E G v x
  | _, _, 0, v, .cons a b, h => by simp at h; subst h; exact ⟨_, rfl, a⟩
  | _, _, i + 1, v, .cons a b, h => by simpa using Fcs.get b (by simpa using h)
  | _, _, i, v, .nil, h => by simp at h
theorem Reps.append {E : Env T} {g : Gh} : ∀ {vs : List (V T)} {xs : List Value} {ws : List (V T)} {ys : List Value}, Reps E g vs xs → Reps E g ws ys → Reps E g (vs ++ ws) (xs ++ ys)
  | _, _, _, _, .nil, k => k
  | _, _, _, _, .cons a b, k => .cons a (Reps.append b k)
theorem Reps.take {E : Env T} {g : Gh} : ∀ {vs : List (V T)} {xs : List Value} (n : Nat), Reps E g vs xs → Reps E g (vs.take n) (xs.take n)
  | _, _, 0, _ => by simpa using .nil
  | _, _, n + 1, .nil => by simpa using .nil
  | _, _, n + 1, .cons a b => by simpa using .cons a (Reps.take n b)
theorem Reps.drop {E : Env T} {g : Gh} : ∀ {vs : List (V T)} {xs : List Value} (n : Nat), Reps E g vs xs → Reps E g (vs.drop n) (xs.drop n)
  | _, _, 0, h => by simpa using h
  | _, _, n + 1, .nil => by simpa using .nil
  | _, _, n + 1, .cons a b => by simpa using Reps.drop n b
theorem Fcs.take {E : Env T} {G} : ∀ {vs : List (V T)} {xs : List Value} (n : Nat), Fcs E G vs xs → Fcs E G (vs.take n) (xs.take n)
  | _, _, 0, _ => by simpa using .nil
  | _, _, n + 1, .nil => by simpa using .nil
  | _, _, n + 1, .cons a b => by simpa using .cons a (Fcs.take n b)
theorem Fcs.drop {E : Env T} {G} : ∀ {vs : List (V T)} {xs : List Value} (n : Nat), Fcs E G vs xs → Fcs E G (vs.drop n) (xs.drop n)
  | _, _, 0, h => by simpa using h
  | _, _, n + 1, .nil => by simpa using .nil
  | _, _, n + 1, .cons a b => by simpa using Fcs.drop n b

/-! ### What holds of a world -/
def Loc.block : Loc → Option Nat
  | .none => Option.none
  | .box b => some b
  | .arr b _ _ => some b
  | .vec _ (some a) _ _ true => some a.block
  | .vec .. => Option.none
  | .map r _ => some r
  | .iter r => some r
def Gh.owns (g : Gh) (b : Nat) : Prop := ∃ (i : Nat) (l : Loc), g.M[i]? = some l ∧ l.block = some b

/-- These are the cells of a value of type t. -/
def CellsOf (E : Env T) (t : Nat) (x : Value) (cs : List Value) : Prop :=
  match (E.ty t).agg with
  | true => x = .agg ⟨cs⟩
  | false => cs = [x]
/-- The entries of a map, one by one. -/
inductive Ents (E : Env T) (g : Gh) (kt et : K) : List (T kt × T et) → List MapEntry → List (Value × Nat) → Prop where
  | nil : Ents E g kt et [] [] []
  | cons {p ps e es bs kcs vcs} (hk : Fcs E g.G (E.enc kt p.1) kcs) (hk' : CellsOf E (E.num kt) e.key kcs) (hv : Fcs E g.G (E.enc et p.2) vcs) (hv' : CellsOf E (E.num et) e.val vcs)
      (h : Ents E g kt et ps es bs) : Ents E g kt et (p :: ps) (e :: es) ((e.key, e.born) :: bs)

def ObOk (E : Env T) (g : Gh) (w : World) : Ob T → Loc → Prop
  | .box t cs, .box b => ∃ vs, w.heap[b]? = some (.cells ⟨vs⟩ t (0, 0)) ∧ Reps E g cs vs ∧ One vs ∧ ∀ off, g.G b off = none
  | .arr e xs, .arr b n sz => n = xs.length ∧ sz = E.size (E.num e) ∧ (∀ off, g.G b off = none) ∧
      ∃ vs, w.heap[b]? = some (.cells ⟨vs⟩ (E.num e) (0, 0)) ∧ vs.length = n * sz ∧ ∀ (j : Nat) x, xs[j]? = some x → Fcs E g.G (E.enc e x) ((vs.drop (j * sz)).take sz)
  | .fro e xs, .arr b n sz => n = xs.length ∧ sz = E.size (E.num e) ∧ b < w.heap.size ∧ Fc E g.G (.sl e xs .no) (.slice (some ⟨b, 0, none⟩) n n)
  | .vec e ver, .vec ver' a len cap mine => ver = ver' ∧ len ≤ cap ∧ (mine = false → len = cap) ∧
      (mine = true → ∃ b vs, a = some ⟨b, 0, none⟩ ∧ w.heap[b]? = some (.cells ⟨vs⟩ (E.num e) (0, 0)) ∧ vs.length = cap * E.size (E.num e) ∧ ∀ off, len * E.size (E.num e) ≤ off → g.G b off = none)
  | .map kt et ents, .map r bs => ∃ es clock, w.heap[r]? = some (.map es clock) ∧ Ents E g kt et ents es.toList bs ∧ (∀ p ∈ bs, p.2 < clock) ∧ (bs.map (·.2)).Nodup ∧ (bs.map (·.1)).Nodup
  | .iter s pos, .iter r => w.heap[r]? = some (.stringIter ⟨⟨s⟩⟩ pos)
  | .dead, .none => True
  | _, _ => False

structure Inv (E : Env T) (g : Gh) (st : List (Ob T)) (w : World) : Prop where
  froz : ∀ b off v, g.G b off = some v → w.cell? ⟨b, off, none⟩ = some v
  len : g.M.length = st.length
  obs : ∀ (i : Nat) (ob : Ob T) (l : Loc), st[i]? = some ob → g.M[i]? = some l → ObOk E g w ob l
  apart : ∀ (i j : Nat) (l l' : Loc) (b : Nat), g.M[i]? = some l → g.M[j]? = some l' → l.block = some b → l'.block = some b → i = j
  glob : ∀ gl cs, E.glob gl = some cs → ∃ vs, Fcs E g.G cs vs ∧ Fz g.G gl 0 vs
  ints : ∀ gl, E.ints gl = true → ∃ m, g.G gl 0 = some (.int .i64 m)

/-- How one world follows another: what is not ours stays; what is frozen stays. -/
structure Ext (g g' : Gh) (w w' : World) : Prop where
  G : GLe g.G g'.G
  os : w'.os = w.os
  tape : w'.tape = w.tape
  output : w'.output = w.output
  size : w.heap.size ≤ w'.heap.size
  keeps : ∀ b, b < w.heap.size → ¬ g.owns b → w'.heap[b]? = w.heap[b]? ∧ ∀ off, g'.G b off = g.G b off
  own : ∀ b, g'.owns b → g.owns b ∨ w.heap.size ≤ b
theorem Ext.refl (g : Gh) (w : World) : Ext g g w w := ⟨.refl _, rfl, rfl, rfl, Nat.le_refl _, fun _ _ _ => ⟨rfl, fun _ => rfl⟩, fun _ h => .inl h⟩
theorem Ext.trans {g g' g'' : Gh} {w w' w'' : World} (h : Ext g g' w w') (k : Ext g' g'' w' w'') : Ext g g'' w w'' where
  G := h.G.trans k.G
  os := k.os.trans h.os
  tape := k.tape.trans h.tape
  output := k.output.trans h.output
  size := Nat.le_trans h.size k.size
  keeps b hb hn := by
    have h1 := h.keeps b hb hn
    have h2 := k.keeps b (Nat.lt_of_lt_of_le hb h.size) (fun ho => (h.own b ho).elim hn (fun hle => by omega))
    exact ⟨h2.1.trans h1.1, fun off => (h2.2 off).trans (h1.2 off)⟩
  own b hb := by
    rcases k.own b hb with ho | hle
    · exact h.own b ho
    · exact .inr (Nat.le_trans h.size hle)

/-- What the slots hold. -/
def FrOk (E : Env T) (g : Gh) (fr : Fr T) (tmps : Array Value) : Prop := ∀ t v, Fr.get fr t = some v → ∃ x, tmps[t]? = some x ∧ Rep E g v x
theorem FrOk.mono {E : Env T} {g g' : Gh} {fr : Fr T} {tmps : Array Value} (h : g.Le g') (k : FrOk E g fr tmps) : FrOk E g' fr tmps :=
  fun t v hv => let ⟨x, h1, h2⟩ := k t v hv; ⟨x, h1, h2.mono h⟩
end Go.Proofs.YtnenfgpjedddoaaGreat.AI
