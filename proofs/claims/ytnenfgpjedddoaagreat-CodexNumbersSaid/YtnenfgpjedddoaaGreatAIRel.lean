/- What the abstract interpreter's values stand for: frozen cells, places of objects, and what holds of a world. -/
import Derived.Test.YtnenfgpjedddoaaGreatAIDefs
import Derived.Below
import Derived.ArgAppend
import Derived.ChangeKeysEq
set_option linter.unusedVariables false
set_option linter.unusedSectionVars false
namespace Go.Proofs.YtnenfgpjedddoaaGreat.AI
open Go

variable {K : Type} [DecidableEq K] {T : K → Type}

/-- From here on these cells hold these values. -/
def Fz (G : Nat → Nat → Option Value) (b off : Nat) (vs : List Value) : Prop := ∀ k v, vs[k]? = some v → G b (off + k) = some v

mutual
/-- A cell that stands for plain data: lists lie in frozen memory. -/
inductive Fc (E : Env T) (G : Nat → Nat → Option Value) : V T → Value → Prop where
  | int (k x) : Fc E G (.int k x) (.int k x)
  | bool (b) : Fc E G (.bool b) (.bool b)
  | str (s) : Fc E G (.str s) (.string ⟨⟨s⟩⟩)
  | sl0 (e) : Fc E G (.sl e [] .no) (.slice none 0 0)
  | sle (e a cap) : Fc E G (.sl e [] .no) (.slice (some a) 0 cap)
  | sl (e xs b off cap) (css : Nat → List Value) (hc : xs.length ≤ cap) (h : ∀ i x, xs[i]? = some x → Fcs E G (E.enc e x) (css i))
      (hz : ∀ i x, xs[i]? = some x → Fz G b (off + i * E.size (E.num e)) (css i)) : Fc E G (.sl e xs .no) (.slice (some ⟨b, off, none⟩) xs.length cap)
inductive Fcs (E : Env T) (G : Nat → Nat → Option Value) : List (V T) → List Value → Prop where
  | nil : Fcs E G [] []
  | cons {v x vs xs} (h : Fc E G v x) (hs : Fcs E G vs xs) : Fcs E G (v :: vs) (x :: xs)
end

/-- Where an object lies. -/
inductive Loc where
  | none
  | box (b : Nat)
  | arr (b n sz : Nat)
  | vec (ver : Nat) (a : Option Addr) (len cap : Nat) (mine : Bool)
  | map (r : Nat) (bs : List (Value × Nat))
  | iter (r : Nat)

structure Gh where
  G : Nat → Nat → Option Value
  M : List Loc

/-- Each value fills one cell. -/
def One (vs : List Value) : Prop := ∀ x ∈ vs, x.oneCell' = true
mutual
inductive Rep (E : Env T) (g : Gh) : V T → Value → Prop where
  | fc {v x} (h : Fc E g.G v x) : Rep E g v x
  | slnil (e) : Rep E g (.sl e [] .nil) (.slice none 0 0)
  | slfull {e xs a n} (h : Fc E g.G (.sl e xs .no) (.slice a n n)) : Rep E g (.sl e xs .full) (.slice a n n)
  | sltok {e xs a n cap i ver ver' a' n' cap' m} (h : Fc E g.G (.sl e xs .no) (.slice a n cap)) (hm : g.M[i]? = some (.vec ver' a' n' cap' m)) (hv : ver ≤ ver')
      (he : ver = ver' → a' = a ∧ n' = n ∧ cap' = cap) : Rep E g (.sl e xs (.tok i ver)) (.slice a n cap)
  | nsl : Rep E g .nsl (.slice none 0 0)
  | agg {cs vs} (h : Reps E g cs vs) (h1 : One vs) : Rep E g (.agg cs) (.agg ⟨vs⟩)
  | ptr {i b off} (h : g.M[i]? = some (.box b)) : Rep E g (.ptr i off) (.pointer (some ⟨b, off, none⟩))
  | npt : Rep E g .npt (.pointer none)
  | adr {cs vs b off} (h : Fcs E g.G cs vs) (hz : Fz g.G b off vs) : Rep E g (.adr cs) (.pointer (some ⟨b, off, none⟩))
  | asl {i b n sz} (h : g.M[i]? = some (.arr b n sz)) : Rep E g (.asl i) (.slice (some ⟨b, 0, none⟩) n n)
  | elt {i j off b n sz} (h : g.M[i]? = some (.arr b n sz)) (hj : j < n) : Rep E g (.elt i j off) (.pointer (some ⟨b, j * sz + off, none⟩))
  | map {i r bs} (h : g.M[i]? = some (.map r bs)) : Rep E g (.map i) (.map (some r))
  | nmp : Rep E g .nmp (.map none)
  | fn {f a c as cs} (ha : Reps E g a as) (hc : Reps E g c cs) : Rep E g (.fn f a c) (.func (.func f) ⟨as⟩ ⟨cs⟩)
  | nfn : Rep E g .nfn .nilFunc
  | ifc {t v x} (h : Rep E g v x) : Rep E g (.ifc t v) (.iface t x)
  | nif : Rep E g .nif .nilIface
  | tup {vs xs} (h : Reps E g vs xs) : Rep E g (.tup vs) (.tuple ⟨xs⟩)
  | stamp {i r bs k kv} {born : Nat} (h : g.M[i]? = some (.map r bs)) (hk : Rep E g k kv) (hb : (kv, born) ∈ bs) : Rep E g (.stamp i k) (.int .i64 born)
  | itr {i r} (h : g.M[i]? = some (.iter r)) : Rep E g (.itr i) (.pointer (some ⟨r, 0, none⟩))
  | und : Rep E g .und undef
inductive Reps (E : Env T) (g : Gh) : List (V T) → List Value → Prop where
  | nil : Reps E g [] []
  | cons {v x vs xs} (h : Rep E g v x) (hs : Reps E g vs xs) : Reps E g (v :: vs) (x :: xs)
end

/-! ### More frozen cells, places that have moved on -/
def GLe (G G' : Nat → Nat → Option Value) : Prop := ∀ b off v, G b off = some v → G' b off = some v
def Loc.Le : Loc → Loc → Prop
  | .none, _ => True
  | .vec ver a n cap m, .vec ver' a' n' cap' m' => ver ≤ ver' ∧ (ver = ver' → a' = a ∧ n' = n ∧ cap' = cap)
  | .map r bs, .map r' bs' => r = r' ∧ ∀ p ∈ bs, p ∈ bs'
  | l, l' => l = l'
def MLe (M M' : List Loc) : Prop := ∀ (i : Nat) (l : Loc), M[i]? = some l → ∃ l', M'[i]? = some l' ∧ l.Le l'
structure Gh.Le (g g' : Gh) : Prop where
  G : GLe g.G g'.G
  M : MLe g.M g'.M

theorem Loc.Le.refl (l : Loc) : l.Le l := by
  cases l <;> simp [Loc.Le]
theorem Loc.Le.trans {a b c : Loc} (h : a.Le b) (k : b.Le c) : a.Le c := by
  cases a <;> cases b <;> cases c <;> simp_all [Loc.Le]
  case vec.vec.vec v a n cp m v' a' n' cp' m' v'' a'' n'' cp'' m'' =>
    refine ⟨Nat.le_trans h.1 k.1, fun e => ?_⟩
    have e1 : v = v' := by omega
    have e2 : v' = v'' := by omega
    obtain ⟨p1, p2, p3⟩ := h.2 e1
    obtain ⟨q1, q2, q3⟩ := k.2 e2
    exact ⟨q1.trans p1, q2.trans p2, q3.trans p3⟩
theorem MLe.refl (M : List Loc) : MLe M M := fun i l h => ⟨l, h, .refl l⟩
theorem MLe.trans {A B C : List Loc} (h : MLe A B) (k : MLe B C) : MLe A C := fun i l hl =>
  let ⟨l', h1, h2⟩ := h i l hl
  let ⟨l'', h3, h4⟩ := k i l' h1
  ⟨l'', h3, h2.trans h4⟩
theorem GLe.refl (G : Nat → Nat → Option Value) : GLe G G := fun _ _ _ h => h
theorem GLe.trans {A B C : Nat → Nat → Option Value} (h : GLe A B) (k : GLe B C) : GLe A C := fun b o v hv => k b o v (h b o v hv)
theorem Gh.Le.refl (g : Gh) : g.Le g := ⟨.refl _, .refl _⟩
theorem Gh.Le.trans {a b c : Gh} (h : a.Le b) (k : b.Le c) : a.Le c := ⟨h.G.trans k.G, h.M.trans k.M⟩

theorem Fz.mono {G G' : Nat → Nat → Option Value} (h : GLe G G') {b off : Nat} {vs : List Value} (hz : Fz G b off vs) : Fz G' b off vs :=
  fun k v hv => h _ _ _ (hz k v hv)
mutual
theorem Fc.mono {E : Env T} {G G' : Nat → Nat → Option Value} (h : GLe G G') : ∀ {v : V T} {x : Value}, Fc E G v x → Fc E G' v x
  | _, _, .int k x => .int k x
  | _, _, .bool b => .bool b
  | _, _, .str s => .str s
  | _, _, .sl0 e => .sl0 e
  | _, _, .sle e a cap => .sle e a cap
  | _, _, .sl e xs b off cap css hc hs hz => .sl e xs b off cap css hc (fun i x hx => Fcs.mono h (hs i x hx)) (fun i x hx => Fz.mono h (hz i x hx))
theorem Fcs.mono {E : Env T} {G G' : Nat → Nat → Option Value} (h : GLe G G') : ∀ {v : List (V T)} {x : List Value}, Fcs E G v x → Fcs E G' v x
  | _, _, .nil => .nil
  | _, _, .cons a b => .cons (Fc.mono h a) (Fcs.mono h b)
end
mutual
theorem Rep.mono {E : Env T} {g g' : Gh} (h : g.Le g') : ∀ {v : V T} {x : Value}, Rep E g v x → Rep E g' v x
  | _, _, .fc a => .fc (a.mono h.G)
  | _, _, .slnil e => .slnil e
  | _, _, .slfull a => .slfull (a.mono h.G)
  | _, _, .sltok (ver := ver) (ver' := ver') a hm hv he => by
    obtain ⟨l', h1, h2⟩ := h.M _ _ hm
    cases l' <;> simp only [Loc.Le] at h2 <;> try (cases h2; done)
    refine .sltok (a.mono h.G) h1 (Nat.le_trans hv h2.1) fun e => ?_
    have e1 : ver = ver' := by omega
    obtain ⟨p1, p2, p3⟩ := he e1
    obtain ⟨q1, q2, q3⟩ := h2.2 (by omega)
    exact ⟨q1.trans p1, q2.trans p2, q3.trans p3⟩
  | _, _, .nsl => .nsl
  | _, _, .agg a h1 => .agg (Reps.mono h a) h1
  | _, _, .ptr hm => by
    obtain ⟨l', h1, h2⟩ := h.M _ _ hm
    cases l' <;> simp only [Loc.Le] at h2 <;> cases h2
    exact .ptr h1
  | _, _, .npt => .npt
  | _, _, .adr a hz => .adr (a.mono h.G) (hz.mono h.G)
  | _, _, .asl hm => by
    obtain ⟨l', h1, h2⟩ := h.M _ _ hm
    cases l' <;> simp only [Loc.Le] at h2 <;> cases h2
    exact .asl h1
  | _, _, .elt hm hj => by
    obtain ⟨l', h1, h2⟩ := h.M _ _ hm
    cases l' <;> simp only [Loc.Le] at h2 <;> cases h2
    exact .elt h1 hj
  | _, _, .map hm => by
    obtain ⟨l', h1, h2⟩ := h.M _ _ hm
    cases l' <;> simp only [Loc.Le] at h2 <;> try (cases h2; done)
    obtain ⟨rfl, _⟩ := h2
    exact .map h1
  | _, _, .nmp => .nmp
  | _, _, .fn a c => .fn (Reps.mono h a) (Reps.mono h c)
  | _, _, .nfn => .nfn
  | _, _, .ifc a => .ifc (Rep.mono h a)
  | _, _, .nif => .nif
  | _, _, .tup a => .tup (Reps.mono h a)
  | _, _, .stamp hm hk hb => by
    obtain ⟨l', h1, h2⟩ := h.M _ _ hm
    cases l' <;> simp only [Loc.Le] at h2 <;> try (cases h2; done)
    obtain ⟨rfl, h3⟩ := h2
    exact .stamp h1 (Rep.mono h hk) (h3 _ hb)
  | _, _, .itr hm => by
    obtain ⟨l', h1, h2⟩ := h.M _ _ hm
    cases l' <;> simp only [Loc.Le] at h2 <;> cases h2
    exact .itr h1
  | _, _, .und => .und
theorem Reps.mono {E : Env T} {g g' : Gh} (h : g.Le g') : ∀ {v : List (V T)} {x : List Value}, Reps E g v x → Reps E g' v x
  | _, _, .nil => .nil
  | _, _, .cons a b => .cons (Rep.mono h a) (Reps.mono h b)
end

theorem Fcs.reps {E : Env T} {g : Gh} : ∀ {vs : List (V T)} {xs : List Value}, Fcs E g.G vs xs → Reps E g vs xs
  | _, _, .nil => .nil
  | _, _, .cons a b => .cons (.fc a) (Fcs.reps b)
theorem Reps.length {E : Env T} {g : Gh} : ∀ {vs : List (V T)} {xs : List Value}, Reps E g vs xs → vs.length = xs.length
  | _, _, .nil => rfl
  | _, _, .cons _ b => by simp [Reps.length b]
theorem Fcs.length {E : Env T} {G} : ∀ {vs : List (V T)} {xs : List Value}, Fcs E G vs xs → vs.length = xs.length
  | _, _, .nil => rfl
  | _, _, .cons _ b => by simp [Fcs.length b]
theorem Reps.get {E : Env T} {g : Gh} : ∀ {vs : List (V T)} {xs : List Value} {i : Nat} {v : V T}, Reps E g vs xs → vs[i]? = some v → ∃ x, xs[i]? = some x ∧ Rep E g v x
  | _, _, 0, v, .cons a b, h => by simp at h; subst h; exact ⟨_, rfl, a⟩
  | _, _, i + 1, v, .cons a b, h => by simpa using Reps.get b (by simpa using h)
  | _, _, i, v, .nil, h => by simp at h
theorem Fcs.get {E : Env T} {G} : ∀ {vs : List (V T)} {xs : List Value} {i : Nat} {v : V T}, Fcs E G vs xs → vs[i]? = some v → ∃ x, xs[i]? = some x ∧ Fc E G v x
  | _, _, 0, v, .cons a b, h => by simp at h; subst h; exact ⟨_, rfl, a⟩
  | _, _, i + 1, v, .cons a b, h => by simpa using Fcs.get b (by simpa using h)
  | _, _, i, v, .nil, h => by simp at h
theorem Reps.append {E : Env T} {g : Gh} : ∀ {vs : List (V T)} {xs : List Value} {ws : List (V T)} {ys : List Value}, Reps E g vs xs → Reps E g ws ys → Reps E g (vs ++ ws) (xs ++ ys)
  | _, _, _, _, .nil, k => k
  | _, _, _, _, .cons a b, k => .cons a (Reps.append b k)
theorem Reps.take {E : Env T} {g : Gh} : ∀ {vs : List (V T)} {xs : List Value} (n : Nat), Reps E g vs xs → Reps E g (vs.take n) (xs.take n)
  | _, _, 0, _ => by simpa using .nil
  | _, _, n + 1, .nil => by simpa using .nil
  | _, _, n + 1, .cons a b => by simpa using .cons a (Reps.take n b)
theorem Reps.drop {E : Env T} {g : Gh} : ∀ {vs : List (V T)} {xs : List Value} (n : Nat), Reps E g vs xs → Reps E g (vs.drop n) (xs.drop n)
  | _, _, 0, h => by simpa using h
  | _, _, n + 1, .nil => by simpa using .nil
  | _, _, n + 1, .cons a b => by simpa using Reps.drop n b
theorem Fcs.take {E : Env T} {G} : ∀ {vs : List (V T)} {xs : List Value} (n : Nat), Fcs E G vs xs → Fcs E G (vs.take n) (xs.take n)
  | _, _, 0, _ => by simpa using .nil
  | _, _, n + 1, .nil => by simpa using .nil
  | _, _, n + 1, .cons a b => by simpa using .cons a (Fcs.take n b)
theorem Fcs.drop {E : Env T} {G} : ∀ {vs : List (V T)} {xs : List Value} (n : Nat), Fcs E G vs xs → Fcs E G (vs.drop n) (xs.drop n)
  | _, _, 0, h => by simpa using h
  | _, _, n + 1, .nil => by simpa using .nil
  | _, _, n + 1, .cons a b => by simpa using Fcs.drop n b

/-! ### What holds of a world -/
def Loc.block : Loc → Option Nat
  | .none => Option.none
  | .box b => some b
  | .arr b _ _ => some b
  | .vec _ (some a) _ _ true => some a.block
  | .vec .. => Option.none
  | .map r _ => some r
  | .iter r => some r
def Gh.owns (g : Gh) (b : Nat) : Prop := ∃ (i : Nat) (l : Loc), g.M[i]? = some l ∧ l.block = some b

/-- These are the cells of a value of type t. -/
def CellsOf (E : Env T) (t : Nat) (x : Value) (cs : List Value) : Prop :=
  match (E.ty t).agg with
  | true => x = .agg ⟨cs⟩
  | false => cs = [x]
/-- The entries of a map, one by one. -/
inductive Ents (E : Env T) (g : Gh) (kt et : K) : List (T kt × T et) → List MapEntry → List (Value × Nat) → Prop where
  | nil : Ents E g kt et [] [] []
  | cons {p ps e es bs kcs vcs} (hk : Fcs E g.G (E.enc kt p.1) kcs) (hk' : CellsOf E (E.num kt) e.key kcs) (hv : Fcs E g.G (E.enc et p.2) vcs) (hv' : CellsOf E (E.num et) e.val vcs)
      (h : Ents E g kt et ps es bs) : Ents E g kt et (p :: ps) (e :: es) ((e.key, e.born) :: bs)

def ObOk (E : Env T) (g : Gh) (w : World) : Ob T → Loc → Prop
  | .box t cs, .box b => ∃ vs, w.heap[b]? = some (.cells ⟨vs⟩ t (0, 0)) ∧ Reps E g cs vs ∧ One vs ∧ ∀ off, g.G b off = none
  | .arr e xs, .arr b n sz => n = xs.length ∧ sz = E.size (E.num e) ∧ (∀ off, g.G b off = none) ∧
      ∃ vs, w.heap[b]? = some (.cells ⟨vs⟩ (E.num e) (0, 0)) ∧ vs.length = n * sz ∧ ∀ (j : Nat) x, xs[j]? = some x → Fcs E g.G (E.enc e x) ((vs.drop (j * sz)).take sz)
  | .fro e xs, .arr b n sz => n = xs.length ∧ sz = E.size (E.num e) ∧ b < w.heap.size ∧ Fc E g.G (.sl e xs .no) (.slice (some ⟨b, 0, none⟩) n n)
  | .vec e ver, .vec ver' a len cap mine => ver = ver' ∧ len ≤ cap ∧ (mine = false → len = cap) ∧
      (mine = true → ∃ b vs, a = some ⟨b, 0, none⟩ ∧ w.heap[b]? = some (.cells ⟨vs⟩ (E.num e) (0, 0)) ∧ vs.length = cap * E.size (E.num e) ∧ ∀ off, len * E.size (E.num e) ≤ off → g.G b off = none)
  | .map kt et ents, .map r bs => ∃ es clock, w.heap[r]? = some (.map es clock) ∧ Ents E g kt et ents es.toList bs ∧ (∀ p ∈ bs, p.2 < clock) ∧ (bs.map (·.2)).Nodup ∧ (bs.map (·.1)).Nodup
  | .iter s pos, .iter r => w.heap[r]? = some (.stringIter ⟨⟨s⟩⟩ pos)
  | .dead, .none => True
  | _, _ => False

structure Inv (E : Env T) (g : Gh) (st : List (Ob T)) (w : World) : Prop where
  froz : ∀ b off v, g.G b off = some v → w.cell? ⟨b, off, none⟩ = some v
  len : g.M.length = st.length
  obs : ∀ (i : Nat) (ob : Ob T) (l : Loc), st[i]? = some ob → g.M[i]? = some l → ObOk E g w ob l
  apart : ∀ (i j : Nat) (l l' : Loc) (b : Nat), g.M[i]? = some l → g.M[j]? = some l' → l.block = some b → l'.block = some b → i = j
  glob : ∀ gl cs, E.glob gl = some cs → ∃ vs, Fcs E g.G cs vs ∧ Fz g.G gl 0 vs
  ints : ∀ gl, E.ints gl = true → ∃ m, g.G gl 0 = some (.int .i64 m)

/-- How one world follows another: what is not ours stays; what is frozen stays. -/
structure Ext (g g' : Gh) (w w' : World) : Prop where
  G : GLe g.G g'.G
  os : w'.os = w.os
  tape : w'.tape = w.tape
  output : w'.output = w.output
  size : w.heap.size ≤ w'.heap.size
  keeps : ∀ b, b < w.heap.size → ¬ g.owns b → w'.heap[b]? = w.heap[b]? ∧ ∀ off, g'.G b off = g.G b off
  own : ∀ b, g'.owns b → g.owns b ∨ w.heap.size ≤ b
theorem Ext.refl (g : Gh) (w : World) : Ext g g w w := ⟨.refl _, rfl, rfl, rfl, Nat.le_refl _, fun _ _ _ => ⟨rfl, fun _ => rfl⟩, fun _ h => .inl h⟩
theorem Ext.trans {g g' g'' : Gh} {w w' w'' : World} (h : Ext g g' w w') (k : Ext g' g'' w' w'') : Ext g g'' w w'' where
  G := h.G.trans k.G
  os := k.os.trans h.os
  tape := k.tape.trans h.tape
  output := k.output.trans h.output
  size := Nat.le_trans h.size k.size
  keeps b hb hn := by
    have h1 := h.keeps b hb hn
    have h2 := k.keeps b (Nat.lt_of_lt_of_le hb h.size) (fun ho => (h.own b ho).elim hn (fun hle => by omega))
    exact ⟨h2.1.trans h1.1, fun off => (h2.2 off).trans (h1.2 off)⟩
  own b hb := by
    rcases k.own b hb with ho | hle
    · exact h.own b ho
    · exact .inr (Nat.le_trans h.size hle)

/-- What the slots hold. -/
def FrOk (E : Env T) (g : Gh) (fr : Fr T) (tmps : Array Value) : Prop := ∀ t v, Fr.get fr t = some v → ∃ x, tmps[t]? = some x ∧ Rep E g v x
theorem FrOk.mono {E : Env T} {g g' : Gh} {fr : Fr T} {tmps : Array Value} (h : g.Le g') (k : FrOk E g fr tmps) : FrOk E g' fr tmps :=
  fun t v hv => let ⟨x, h1, h2⟩ := k t v hv; ⟨x, h1, h2.mono h⟩
end Go.Proofs.YtnenfgpjedddoaaGreat.AI

/- What is asked of the tables, and the first small laws: operands, cells, loads and stores. -/
set_option linter.unusedVariables false
set_option linter.unusedSectionVars false
namespace Go.Proofs.YtnenfgpjedddoaaGreat.AI
open Go

variable {K : Type} [DecidableEq K] {T : K → Type}

/-- The type has as many cells as the table says. -/
def Sized (P : Program) (E : Env T) (t : Nat) : Prop := ∃ i, P.info? t = some i ∧ i.size = E.size t
def TyOk (P : Program) (E : Env T) (t : Nat) : Ty K → Prop
  | .int k => P.underlying t = some (.int k) ∧ Sized P E t ∧ E.cts t = [t]
  | .bool => P.underlying t = some .bool ∧ Sized P E t ∧ E.cts t = [t]
  | .str => P.underlying t = some .string ∧ Sized P E t ∧ E.cts t = [t]
  | .slice e => P.underlying t = some (.slice (E.num e)) ∧ Sized P E t ∧ E.cts t = [t]
  | .ptr e => P.underlying t = some (.pointer e) ∧ Sized P E t ∧ E.cts t = [t]
  | .map k e => P.underlying t = some (.map (E.num k) (E.num e)) ∧ Sized P E t ∧ E.cts t = [t]
  | .func => (∃ ps rs v, P.underlying t = some (.func ps rs v)) ∧ Sized P E t ∧ E.cts t = [t]
  | .iface => (∃ ms, P.underlying t = some (.interface ms)) ∧ Sized P E t ∧ E.cts t = [t]
  | .struct fs => (∃ fields, P.underlying t = some (.struct fields) ∧ fs = fields.toList.map (fun f => (f.type, f.offset)) ∧ fields.all (fun f => f.name != "_") = true) ∧ Sized P E t ∧
      P.stoodInHeld t = false ∧ P.eqGuardType P.depth t = false ∧ ∀ p ∈ fs, Sized P E p.1 ∧ 0 < E.size p.1
  | .array n e => P.underlying t = some (.array n e) ∧ Sized P E t ∧ Sized P E e
  | .other => True

structure EnvOk (P : Program) (E : Env T) : Prop where
  mixed : P.follows .mixedOrders = true
  ty : ∀ t, TyOk P E t (E.ty t)
  zero : ∀ t cs, zeroC E t = some cs → ∃ i z vs, P.info? t = some i ∧ i.zero = some z ∧ CellsOf E t z vs ∧ One vs ∧ leaves cs = true ∧ ∀ g, Reps E g cs vs
  elem : ∀ e, ∃ i z, P.info? (E.num e) = some i ∧ i.zero = some z ∧ i.size = E.size (E.num e) ∧ z.cells.size = i.size ∧ i.bytes = E.bytes e ∧ 0 < i.bytes ∧ 0 < i.size
  encLen : ∀ e x, (E.enc e x).length = E.size (E.num e)
  dec : ∀ g e cs x vs, E.dec e cs = some x → Reps E g cs vs → Fcs E g.G (E.enc e x) vs
  key : ∀ e, keyedT E (E.num e) = true → ∀ a b, eqT E 100 (E.num e) (E.enc e a) (E.enc e b) = some (E.eqb e a b)
  fns : ∀ f fn, E.fns f = some fn → P.funcs[f]? = some fn ∧ fn.name ≠ "runtime.NumGoroutine"
  back : ∀ f e, E.back f = some e → isBack E f e = true

/-! ### Cells fill one cell each -/
theorem Fc.one {E : Env T} {G} {v : V T} {x : Value} (h : Fc E G v x) : x.oneCell' = true := by cases h <;> rfl
theorem Fcs.one {E : Env T} {G} : ∀ {vs : List (V T)} {xs : List Value}, Fcs E G vs xs → One xs
  | _, _, .nil => fun _ h => by cases h
  | _, _, .cons a b => fun x h => by
    cases h with
    | head => exact a.one
    | tail _ h => exact Fcs.one b x h
theorem Rep.one {E : Env T} {g : Gh} {v : V T} {x : Value} (h : Rep E g v x) (hl : v.leaf = true) : x.oneCell' = true := by
  cases h <;> first | rfl | (cases hl; done) | (rename_i h; exact h.one)
theorem Reps.one {E : Env T} {g : Gh} : ∀ {vs : List (V T)} {xs : List Value}, Reps E g vs xs → leaves vs = true → One xs
  | _, _, .nil, _ => fun _ h => by cases h
  | _, _, .cons a b, hl => fun x h => by
    simp only [leaves, Bool.and_eq_true] at hl
    cases h with
    | head => exact a.one hl.1
    | tail _ h => exact Reps.one b hl.2 x h
theorem One.take {xs : List Value} (h : One xs) (n : Nat) : One (xs.take n) := fun x hx => h x (List.mem_of_mem_take hx)
theorem One.drop {xs : List Value} (h : One xs) (n : Nat) : One (xs.drop n) := fun x hx => h x (List.mem_of_mem_drop hx)
theorem One.append {xs ys : List Value} (h : One xs) (k : One ys) : One (xs ++ ys) := fun x hx => (List.mem_append.1 hx).elim (h x) (k x)

/-- The cells of a value. -/
theorem Rep.cells {E : Env T} {g : Gh} {v : V T} {x : Value} (h : Rep E g v x) : Reps E g v.cells x.cells.toList := by
  have plain : ∀ {v : V T} {x : Value}, Rep E g v x → v.cells = [v] → x.cells = #[x] → Reps E g v.cells x.cells.toList := fun h a b => by
    rw [a, b]; exact .cons h .nil
  cases h with
  | agg h h1 => exact h
  | fc h => exact plain (.fc h) (by cases h <;> rfl) (by cases h <;> rfl)
  | slnil e => exact plain (.slnil e) rfl rfl
  | slfull h => exact plain (.slfull h) rfl rfl
  | sltok h a b c => exact plain (.sltok h a b c) rfl rfl
  | nsl => exact plain .nsl rfl rfl
  | ptr h => exact plain (.ptr h) rfl rfl
  | npt => exact plain .npt rfl rfl
  | adr a b => exact plain (.adr a b) rfl rfl
  | asl h => exact plain (.asl h) rfl rfl
  | elt h hj => exact plain (.elt h hj) rfl rfl
  | map h => exact plain (.map h) rfl rfl
  | nmp => exact plain .nmp rfl rfl
  | fn a b => exact plain (.fn a b) rfl rfl
  | nfn => exact plain .nfn rfl rfl
  | ifc h => exact plain (.ifc h) rfl rfl
  | nif => exact plain .nif rfl rfl
  | tup h => exact plain (.tup h) rfl rfl
  | stamp a b c => exact plain (.stamp a b c) rfl rfl
  | itr h => exact plain (.itr h) rfl rfl
  | und => exact plain .und rfl rfl

/-! ### Operands -/
theorem Rep.const {E : Env T} {g : Gh} {x : Value} {v : V T} (h : constV x = some v) : Rep E g v x := by
  unfold constV at h
  split at h <;> simp only [Option.some.injEq, reduceCtorEq] at h <;> subst h
  · exact .fc (.int _ _)
  · exact .fc (.bool _)
  · exact .fc (.str _)
  · exact .nsl
  · exact .npt
  · exact .nmp
  · exact .nfn
  · exact .nif
  · exact .tup .nil
theorem evalO_ok {E : Env T} {g : Gh} {fr : Fr T} {a : Act} (hf : FrOk E g fr a.tmps) {x : Operand} {v : V T} (h : evalO fr x = some v) : Rep E g v (a.eval x) := by
  cases x with
  | tmp t =>
    obtain ⟨y, h1, h2⟩ := hf t v h
    simpa [Act.eval, Array.getD_eq_getD_getElem?, h1] using h2
  | const c => exact Rep.const h
  | global gl => simp [evalO] at h
  | func f =>
    simp only [evalO, Option.some.injEq] at h
    subst h
    exact .fn .nil .nil
theorem Rep.coerce {E : Env T} {g : Gh} {v : V T} {x : Value} (t : Nat) (h : Rep E g v x) : Rep E g (coerce E t v) x := by
  unfold AI.coerce
  split
  · split
    · cases h with
      | fc h => cases h
      | nsl => exact .slnil _
    · exact h
  · exact h

/-! ### Loads -/
section
variable {P : Program} {E : Env T}
def dAgg : TypeDesc → Bool
  | .struct _ | .array _ _ => true
  | _ => false
theorem run_isAgg {t : Nat} {w : World} {d : TypeDesc} (h : P.underlying t = some d) : (isAgg t).run P w = .ok (dAgg d) w := by
  unfold isAgg
  simp only [Sem.run_bind, run_underlying h, Result.andThen_ok]
  cases d <;> rfl
theorem run_sizeOf' {t : Nat} {w : World} {i : TypeInfo} (h : P.info? t = some i) : (sizeOf t).run P w = .ok i.size w := by
  simp [sizeOf, typeInfo, h]
theorem Addr.add_mk (b off n : Nat) : (⟨b, off, none⟩ : Addr).add n = ⟨b, off + n, none⟩ := by
  unfold Addr.add
  split
  · rename_i h; subst h; rfl
  · rfl
/-- The cells that lie at an address: at least as many as the type has. -/
def At (w : World) (b off : Nat) (vs : List Value) : Prop := ∀ (k : Nat) v, vs[k]? = some v → w.cell? ⟨b, off + k, none⟩ = some v
theorem At.take {w : World} {b off : Nat} {vs : List Value} (h : At w b off vs) (n : Nat) : At w b off (vs.take n) := fun k v hv => by
  rw [List.getElem?_take] at hv
  split at hv
  · exact h k v hv
  · cases hv
theorem At.drop {w : World} {b off : Nat} {vs : List Value} (h : At w b off vs) (n : Nat) : At w b (off + n) (vs.drop n) := fun k v hv => by
  rw [List.getElem?_drop] at hv
  have := h _ v hv
  rwa [← Nat.add_assoc] at this
theorem run_loadAgg {w : World} {b off n : Nat} {vs : List Value} (h : At w b off vs) (hn : n ≤ vs.length) : (loadCells ⟨b, off, none⟩ n).run P w = .ok ⟨vs.take n⟩ w := by
  have := run_loadCells_list (P := P) w ⟨b, off, none⟩ (vs.take n) (fun j v hv => by rw [Addr.add_mk]; exact h.take n j v hv)
  rw [List.length_take, Nat.min_eq_left hn] at this
  simpa using this
/-- Reading a value of type t where these cells lie. -/
theorem loadVar_ok (hE : EnvOk P E) {w : World} {g : Gh} {t b off : Nat} {cs : List (V T)} {vs : List Value} {v : V T} (hc : cut E t cs = some v) (hr : Reps E g cs vs) (h1 : One vs)
    (hat : At w b off vs) : ∃ x, (loadVar t ⟨b, off, none⟩).run P w = .ok x w ∧ Rep E g v x := by
  have hty := hE.ty t
  unfold cut at hc
  have agg : ∀ d, P.underlying t = some d → dAgg d = true → Sized P E t → cutN (E.size t) cs = some v →
      ∃ x, (loadVar t ⟨b, off, none⟩).run P w = .ok x w ∧ Rep E g v x := fun d hu ha ⟨i, hi, hs⟩ hc => by
    unfold cutN at hc
    split at hc
    · rename_i hb
      simp only [Option.some.injEq] at hc
      subst hc
      have hb' : E.size t ≤ cs.length := Nat.le_of_ble_eq_true (Bool.and_eq_true_iff.1 hb).1
      have hl := hr.length
      refine ⟨.agg ⟨vs.take (E.size t)⟩, ?_, .agg (hr.take _) (h1.take _)⟩
      unfold loadVar
      simp only [Sem.run_bind, run_isAgg hu, ha, Result.andThen_ok, run_sizeOf' hi, hs, if_true]
      rw [run_loadAgg hat (by omega)]
      rfl
    · cases hc
  have one : ∀ d, P.underlying t = some d → dAgg d = false → cs.head? = some v →
      ∃ x, (loadVar t ⟨b, off, none⟩).run P w = .ok x w ∧ Rep E g v x := fun d hu ha hc => by
    cases hr with
    | nil => simp at hc
    | @cons v' x' vs' xs' hv hs =>
      simp only [List.head?_cons, Option.some.injEq] at hc
      subst hc
      refine ⟨x', ?_, hv⟩
      have h0 := hat 0 x' (by simp)
      simp only [Nat.add_zero] at h0
      unfold loadVar
      simp only [Sem.run_bind, run_isAgg hu, ha, Result.andThen_ok, Bool.false_eq_true, if_false, run_load, h0]
  cases ht : E.ty t <;> simp only [ht] at hc hty
  case int => exact one _ hty.1 rfl hc
  case bool => exact one _ hty.1 rfl hc
  case str => exact one _ hty.1 rfl hc
  case slice => exact one _ hty.1 rfl hc
  case ptr => exact one _ hty.1 rfl hc
  case map => exact one _ hty.1 rfl hc
  case func => obtain ⟨⟨_, _, _, hu⟩, _⟩ := hty; exact one _ hu rfl hc
  case iface => obtain ⟨⟨_, hu⟩, _⟩ := hty; exact one _ hu rfl hc
  case struct => obtain ⟨⟨_, hu, _⟩, hs, _⟩ := hty; exact agg _ hu rfl hs hc
  case array => exact agg _ hty.1 rfl hty.2.1 hc
  case other => cases hc
end
end Go.Proofs.YtnenfgpjedddoaaGreat.AI

/- How a world that is written to, or that gets a new block, goes on to stand for the objects. -/
set_option linter.unusedVariables false
set_option linter.unusedSectionVars false
namespace Go.Proofs.YtnenfgpjedddoaaGreat.AI
open Go

variable {K : Type} [DecidableEq K] {T : K → Type} {E : Env T}

/-! ### Rows of cells -/
theorem cell?_cells {w : World} {b off : Nat} {c : List Value} {t : TypeId} {fz : Nat × Nat} (h : w.heap[b]? = some (.cells ⟨c⟩ t fz)) : w.cell? ⟨b, off, none⟩ = c[off]? := by
  simp [World.cell?, h]
theorem at_cells {w : World} {b : Nat} {c : List Value} {t : TypeId} {fz : Nat × Nat} (h : w.heap[b]? = some (.cells ⟨c⟩ t fz)) : At w b 0 c := fun k v hv => by
  rw [cell?_cells h, Nat.zero_add]; exact hv
theorem at_cells_drop {w : World} {b : Nat} {c : List Value} {t : TypeId} {fz : Nat × Nat} (h : w.heap[b]? = some (.cells ⟨c⟩ t fz)) (off : Nat) : At w b off (c.drop off) := by
  have := (at_cells h).drop off
  rwa [Nat.zero_add] at this
theorem cell?_block {w w' : World} {b : Nat} (h : w'.heap[b]? = w.heap[b]?) (off : Nat) : w'.cell? ⟨b, off, none⟩ = w.cell? ⟨b, off, none⟩ :=
  World.cell?_of_block (w := w) h
theorem cell?_lt {w : World} {b off : Nat} {v : Value} (h : w.cell? ⟨b, off, none⟩ = some v) : b < w.heap.size := by
  unfold World.cell? at h
  split at h
  · rename_i hb
    exact (Array.getElem?_eq_some_iff.1 hb).1
  · cases h
theorem heap_lt {w : World} {b : Nat} {o : Obj} (h : w.heap[b]? = some o) : b < w.heap.size := (Array.getElem?_eq_some_iff.1 h).1

/-- A row with some of its cells written anew. -/
def spliced (c : List Value) (off : Nat) (us : List Value) : List Value := c.take off ++ us ++ c.drop (off + us.length)
theorem spliced_length {c : List Value} {off : Nat} {us : List Value} (h : off + us.length ≤ c.length) : (spliced c off us).length = c.length := by
  simp [spliced]; omega
theorem spliced_cons {c : List Value} {off : Nat} {u : Value} {us : List Value} (h : off + (us.length + 1) ≤ c.length) :
    spliced (c.set off u) (off + 1) us = spliced c off (u :: us) := by
  have e1 : (c.set off u).take (off + 1) = c.take off ++ [u] := by
    rw [List.take_add_one, List.getElem?_set_self (by omega), List.take_set_of_le (Nat.le_refl _)]
    rfl
  have e2 : (c.set off u).drop (off + 1 + us.length) = c.drop (off + 1 + us.length) := by
    rw [List.drop_set_of_lt (by omega)]
  unfold spliced
  rw [e1, e2]
  simp [Nat.add_assoc, Nat.add_comm 1]
theorem setCells_heap {b : Nat} {t : TypeId} : ∀ (us c : List Value) (off : Nat) (w : World), w.heap[b]? = some (.cells ⟨c⟩ t (0, 0)) → off + us.length ≤ c.length →
    (w.setCells b off us).heap[b]? = some (.cells ⟨spliced c off us⟩ t (0, 0))
  | [], c, off, w, h, _ => by simpa [World.setCells, spliced] using h
  | u :: us, c, off, w, h, hl => by
    simp only [List.length_cons] at hl
    have h1 : (w.setCell ⟨b, off, none⟩ u).heap[b]? = some (.cells ⟨c.set off u⟩ t (0, 0)) := by
      simp [World.setCell, Array.getElem?_modify, h]
    have := setCells_heap us (c.set off u) (off + 1) _ h1 (by simp; omega)
    rw [spliced_cons (by omega)] at this
    simpa [World.setCells] using this
theorem setCells_other {b k : Nat} (hk : k ≠ b) : ∀ (us : List Value) (off : Nat) (w : World), (w.setCells b off us).heap[k]? = w.heap[k]?
  | [], _, _ => rfl
  | u :: us, off, w => by
    have := setCells_other hk us (off + 1) (w.setCell ⟨b, off, none⟩ u)
    rw [show w.setCells b off (u :: us) = (w.setCell ⟨b, off, none⟩ u).setCells b (off + 1) us from rfl, this]
    exact RowKit.Below.heap_setCell w ⟨b, off, none⟩ u k hk
theorem setCells_rest {b : Nat} : ∀ (us : List Value) (off : Nat) (w : World), (w.setCells b off us).os = w.os ∧ (w.setCells b off us).tape = w.tape ∧ (w.setCells b off us).output = w.output ∧ (w.setCells b off us).heap.size = w.heap.size
  | [], _, _ => ⟨rfl, rfl, rfl, rfl⟩
  | u :: us, off, w => by
    obtain ⟨a, b', c, d⟩ := setCells_rest (b := b) us (off + 1) (w.setCell ⟨b, off, none⟩ u)
    refine ⟨a, b', c, d.trans ?_⟩
    simp [World.setCell]

/-! ### What stays -/
theorem ObOk.lt {g : Gh} {w : World} {ob : Ob T} {l : Loc} {b : Nat} (h : ObOk E g w ob l) (hb : l.block = some b) : b < w.heap.size := by
  cases l with
  | none => cases hb
  | box b' =>
    simp only [Loc.block, Option.some.injEq] at hb; subst hb
    cases ob <;> simp only [ObOk] at h
    obtain ⟨vs, h1, _⟩ := h
    exact heap_lt h1
  | arr b' n sz =>
    simp only [Loc.block, Option.some.injEq] at hb; subst hb
    cases ob <;> simp only [ObOk] at h
    · obtain ⟨_, _, _, vs, h1, _⟩ := h
      exact heap_lt h1
    · exact h.2.2.1
  | vec ver a len cap mine =>
    cases ob <;> simp only [ObOk] at h
    cases mine
    · cases a <;> simp [Loc.block] at hb
    · obtain ⟨b', vs, rfl, h1, _⟩ := h.2.2.2 rfl
      simp only [Loc.block, Option.some.injEq] at hb
      subst hb
      exact heap_lt h1
  | map r bs =>
    simp only [Loc.block, Option.some.injEq] at hb; subst hb
    cases ob <;> simp only [ObOk] at h
    obtain ⟨es, clock, h1, _⟩ := h
    exact heap_lt h1
  | iter r =>
    simp only [Loc.block, Option.some.injEq] at hb; subst hb
    cases ob <;> simp only [ObOk] at h
    exact heap_lt h
theorem Inv.lt {g : Gh} {st : List (Ob T)} {w : World} (hi : Inv E g st w) {i : Nat} {l : Loc} {b : Nat} (h : g.M[i]? = some l) (hb : l.block = some b) : b < w.heap.size := by
  have hlt : i < st.length := by rw [← hi.len]; exact (List.getElem?_eq_some_iff.1 h).1
  exact (hi.obs i st[i] l (by simp [hlt]) h).lt hb
theorem Inv.glt {g : Gh} {st : List (Ob T)} {w : World} (hi : Inv E g st w) {b off : Nat} {v : Value} (h : g.G b off = some v) : b < w.heap.size := cell?_lt (hi.froz b off v h)

theorem Ents.mono {g g' : Gh} (hle : g.Le g') {kt et : K} : ∀ {ps : List (T kt × T et)} {es : List MapEntry} {bs : List (Value × Nat)}, Ents E g kt et ps es bs → Ents E g' kt et ps es bs
  | _, _, _, .nil => .nil
  | _, _, _, .cons a b c d h => .cons (a.mono hle.G) b (c.mono hle.G) d (Ents.mono hle h)
theorem ObOk.mono {g g' : Gh} {w w' : World} {ob : Ob T} {l : Loc} (h : ObOk E g w ob l) (hle : g.Le g') (hs : w.heap.size ≤ w'.heap.size)
    (hk : ∀ b, l.block = some b → w'.heap[b]? = w.heap[b]? ∧ ∀ off, g'.G b off = g.G b off) : ObOk E g' w' ob l := by
  cases ob <;> cases l <;> simp only [ObOk] at h ⊢
  case box.box t cs b =>
    obtain ⟨vs, h1, h2, h3, h4⟩ := h
    obtain ⟨k1, k2⟩ := hk b rfl
    exact ⟨vs, k1.trans h1, h2.mono hle, h3, fun off => (k2 off).trans (h4 off)⟩
  case arr.arr e xs b n sz =>
    obtain ⟨h1, h2, h3, vs, h4, h5, h6⟩ := h
    obtain ⟨k1, k2⟩ := hk b rfl
    exact ⟨h1, h2, fun off => (k2 off).trans (h3 off), vs, k1.trans h4, h5, fun j x hx => (h6 j x hx).mono hle.G⟩
  case fro.arr e xs b n sz =>
    exact ⟨h.1, h.2.1, Nat.lt_of_lt_of_le h.2.2.1 hs, h.2.2.2.mono hle.G⟩
  case vec.vec e ver ver' a len cap mine =>
    obtain ⟨h1, h2, h3, h4⟩ := h
    refine ⟨h1, h2, h3, fun hm => ?_⟩
    obtain ⟨b, vs, rfl, h5, h6, h7⟩ := h4 hm
    subst hm
    obtain ⟨k1, k2⟩ := hk b rfl
    exact ⟨b, vs, rfl, k1.trans h5, h6, fun off ho => (k2 off).trans (h7 off ho)⟩
  case map.map kt et ents r bs =>
    obtain ⟨es, clock, h1, h2, h3⟩ := h
    obtain ⟨k1, k2⟩ := hk r rfl
    exact ⟨es, clock, k1.trans h1, h2.mono hle, h3⟩
  case iter.iter s pos r =>
    exact (hk r rfl).1.trans h

/-- One object moves on (it may be a new one, or none may: then 'l' is 'none'). -/
theorem Inv.step {g : Gh} {st : List (Ob T)} {w w' : World} (hi : Inv E g st w) {i : Nat} {ob ob' : Ob T} {l l' : Loc} {G' : Nat → Nat → Option Value}
    (h1 : st[i]? = some ob) (h2 : g.M[i]? = some l) (hle : l.Le l') (hG : GLe g.G G') (hfro : ∀ b off v, G' b off = some v → w'.cell? ⟨b, off, none⟩ = some v)
    (hos : w'.os = w.os) (htape : w'.tape = w.tape) (hout : w'.output = w.output) (hsize : w.heap.size ≤ w'.heap.size)
    (hkeep : ∀ b, b < w.heap.size → l.block ≠ some b → w'.heap[b]? = w.heap[b]? ∧ ∀ off, G' b off = g.G b off)
    (hblock : ∀ b, l'.block = some b → l.block = some b ∨ w.heap.size ≤ b)
    (hok : ObOk E ⟨G', g.M.set i l'⟩ w' ob' l') : Inv E ⟨G', g.M.set i l'⟩ (st.set i ob') w' ∧ Ext g ⟨G', g.M.set i l'⟩ w w' ∧ g.Le ⟨G', g.M.set i l'⟩ := by
  have hil : i < g.M.length := (List.getElem?_eq_some_iff.1 h2).1
  have hMle : g.Le ⟨G', g.M.set i l'⟩ := ⟨hG, fun j lj hj => by
    by_cases hji : i = j
    · subst hji
      rw [h2] at hj
      cases hj
      exact ⟨l', by simp [hil], hle⟩
    · exact ⟨lj, by simp [List.getElem?_set_ne hji, hj], .refl _⟩⟩
  have hne : ∀ j lj b, i ≠ j → g.M[j]? = some lj → lj.block = some b → l.block ≠ some b := fun j lj b hij hj hb hlb => hij (hi.apart i j l lj b h2 hj hlb hb)
  refine ⟨⟨hfro, ?_, ?_, ?_, ?_, ?_⟩, ⟨hG, hos, htape, hout, hsize, ?_, ?_⟩, hMle⟩
  · simp [hi.len]
  · intro j obj lj hj hlj
    by_cases hji : i = j
    · subst hji
      have hil' : i < st.length := (List.getElem?_eq_some_iff.1 h1).1
      rw [List.getElem?_set_self hil'] at hj
      rw [List.getElem?_set_self hil] at hlj
      cases hj; cases hlj
      exact hok
    · rw [List.getElem?_set_ne hji] at hj hlj
      refine (hi.obs j obj lj hj hlj).mono hMle hsize fun b hb => ?_
      exact hkeep b (hi.lt hlj hb) (hne j lj b hji hlj hb)
  · intro j k lj lk b hj hk hbj hbk
    by_cases hij : i = j
    · by_cases hik : i = k
      · exact hij ▸ hik
      · subst hij
        rw [List.getElem?_set_self hil] at hj
        rw [List.getElem?_set_ne hik] at hk
        cases hj
        rcases hblock b hbj with hb | hb
        · exact absurd hb (hne k lk b hik hk hbk)
        · exact absurd (hi.lt hk hbk) (by omega)
    · rw [List.getElem?_set_ne hij] at hj
      by_cases hik : i = k
      · subst hik
        rw [List.getElem?_set_self hil] at hk
        cases hk
        rcases hblock b hbk with hb | hb
        · exact absurd hb (hne j lj b hij hj hbj)
        · exact absurd (hi.lt hj hbj) (by omega)
      · rw [List.getElem?_set_ne hik] at hk
        exact hi.apart j k lj lk b hj hk hbj hbk
  · intro gl cs hgl
    obtain ⟨vs, a, b⟩ := hi.glob gl cs hgl
    exact ⟨vs, a.mono hG, b.mono hG⟩
  · intro gl hgl
    obtain ⟨m, hm⟩ := hi.ints gl hgl
    exact ⟨m, hG _ _ _ hm⟩
  · intro b hb hno
    refine hkeep b hb fun hlb => hno ⟨i, l, h2, hlb⟩
  · rintro b ⟨j, lj, hj, hbj⟩
    by_cases hij : i = j
    · subst hij
      rw [List.getElem?_set_self hil] at hj
      cases hj
      rcases hblock b hbj with hb | hb
      · exact .inl ⟨i, l, h2, hb⟩
      · exact .inr hb
    · rw [List.getElem?_set_ne hij] at hj
      exact .inl ⟨j, lj, hj, hbj⟩
/-- No object moves: new frozen cells in new blocks. -/
theorem Inv.grow {g : Gh} {st : List (Ob T)} {w w' : World} (hi : Inv E g st w) {G' : Nat → Nat → Option Value}
    (hG : GLe g.G G') (hfro : ∀ b off v, G' b off = some v → w'.cell? ⟨b, off, none⟩ = some v)
    (hos : w'.os = w.os) (htape : w'.tape = w.tape) (hout : w'.output = w.output) (hsize : w.heap.size ≤ w'.heap.size)
    (hkeep : ∀ b, b < w.heap.size → w'.heap[b]? = w.heap[b]? ∧ ∀ off, G' b off = g.G b off) :
    Inv E ⟨G', g.M⟩ st w' ∧ Ext g ⟨G', g.M⟩ w w' ∧ g.Le ⟨G', g.M⟩ := by
  have hMle : g.Le ⟨G', g.M⟩ := ⟨hG, .refl _⟩
  refine ⟨⟨hfro, hi.len, ?_, hi.apart, ?_, ?_⟩, ⟨hG, hos, htape, hout, hsize, fun b hb _ => hkeep b hb, fun b hb => .inl hb⟩, hMle⟩
  · intro j obj lj hj hlj
    exact (hi.obs j obj lj hj hlj).mono hMle hsize fun b hb => hkeep b (hi.lt hlj hb)
  · intro gl cs hgl
    obtain ⟨vs, a, b⟩ := hi.glob gl cs hgl
    exact ⟨vs, a.mono hG, b.mono hG⟩
  · intro gl hgl
    obtain ⟨m, hm⟩ := hi.ints gl hgl
    exact ⟨m, hG _ _ _ hm⟩
/-- A place for a new object. -/
theorem Inv.dead {g : Gh} {st : List (Ob T)} {w : World} (hi : Inv E g st w) (n : Nat) :
    Inv E ⟨g.G, g.M ++ List.replicate n .none⟩ (st ++ List.replicate n .dead) w ∧ Ext g ⟨g.G, g.M ++ List.replicate n .none⟩ w w ∧ g.Le ⟨g.G, g.M ++ List.replicate n .none⟩ := by
  have hget : ∀ (j : Nat) (l : Loc), (g.M ++ List.replicate n Loc.none)[j]? = some l → g.M[j]? = some l ∨ (l = .none ∧ g.M.length ≤ j) := fun j l h => by
    rw [List.getElem?_append] at h
    split at h
    · exact .inl h
    · rw [List.getElem?_replicate] at h
      split at h
      · cases h; exact .inr ⟨rfl, by omega⟩
      · cases h
  have hle : g.Le ⟨g.G, g.M ++ List.replicate n .none⟩ := ⟨.refl _, fun j l h => ⟨l, by rw [List.getElem?_append_left (List.getElem?_eq_some_iff.1 h).1]; exact h, .refl _⟩⟩
  refine ⟨⟨hi.froz, by simp [hi.len], ?_, ?_, hi.glob, hi.ints⟩, ⟨.refl _, rfl, rfl, rfl, Nat.le_refl _, fun _ _ _ => ⟨rfl, fun _ => rfl⟩, ?_⟩, hle⟩
  · intro j obj lj hj hlj
    rcases hget j lj hlj with h | ⟨rfl, h⟩
    · have hjl : j < st.length := by rw [← hi.len]; exact (List.getElem?_eq_some_iff.1 h).1
      rw [List.getElem?_append_left hjl] at hj
      exact (hi.obs j obj lj hj h).mono hle (Nat.le_refl _) fun b hb => ⟨rfl, fun _ => rfl⟩
    · rw [List.getElem?_append_right (by rw [← hi.len]; exact h), List.getElem?_replicate] at hj
      split at hj
      · cases hj; simp [ObOk]
      · cases hj
  · intro j k lj lk b hj hk hbj hbk
    rcases hget j lj hj with h | ⟨rfl, h⟩
    · rcases hget k lk hk with h' | ⟨rfl, h'⟩
      · exact hi.apart j k lj lk b h h' hbj hbk
      · cases hbk
    · cases hbj
  · rintro b ⟨j, l, hj, hb⟩
    rcases hget j l hj with h | ⟨rfl, h⟩
    · exact .inl ⟨j, l, h, hb⟩
    · cases hb
end Go.Proofs.YtnenfgpjedddoaaGreat.AI
