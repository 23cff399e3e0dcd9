/- What is asked of the tables, as a test that the kernel runs. -/
import Derived.Test.YtnenfgpjedddoaaGreatAIWalk
set_option linter.unusedVariables false
set_option linter.unusedSectionVars false
set_option linter.unusedSimpArgs false
namespace Go.Proofs.YtnenfgpjedddoaaGreat.AI
open Go

variable {K : Type} [DecidableEq K] {T : K → Type} {E : Env T} {P : Program}

def sizedB (P : Program) (E : Env T) (t : Nat) : Bool := match P.info? t with
  | some i => Nat.beq i.size (E.size t)
  | none => false
theorem sizedB_spec {t : Nat} (h : sizedB P E t = true) : Sized P E t := by
  unfold sizedB at h
  split at h
  · rename_i i hi
    exact ⟨i, hi, Nat.eq_of_beq_eq_true h⟩
  · cases h
def natsB : List Nat → List Nat → Bool
  | [], [] => true
  | a :: as, b :: bs => Nat.beq a b && natsB as bs
  | _, _ => false
theorem natsB_spec : ∀ {as bs : List Nat}, natsB as bs = true → as = bs
  | [], [], _ => rfl
  | a :: as, b :: bs, h => by
    simp only [natsB, Bool.and_eq_true] at h
    rw [Nat.eq_of_beq_eq_true h.1, natsB_spec h.2]
  | [], _ :: _, h => by cases h
  | _ :: _, [], h => by cases h
def fieldsB : List (Nat × Nat) → List Field → Bool
  | [], [] => true
  | (t, o) :: fs, f :: gs => Nat.beq t f.type && Nat.beq o f.offset && fieldsB fs gs
  | _, _ => false
theorem fieldsB_spec : ∀ {fs : List (Nat × Nat)} {gs : List Field}, fieldsB fs gs = true → fs = gs.map fun f => (f.type, f.offset)
  | [], [], _ => rfl
  | (t, o) :: fs, f :: gs, h => by
    simp only [fieldsB, Bool.and_eq_true] at h
    rw [Nat.eq_of_beq_eq_true h.1.1, Nat.eq_of_beq_eq_true h.1.2, fieldsB_spec h.2]
    rfl
  | [], _ :: _, h => by cases h
  | _ :: _, [], h => by cases h
def kindB : IntKind → IntKind → Bool := fun a b => decide (a = b)
/-- One type's row of the table. -/
def tyB (P : Program) (E : Env T) (t : Nat) : Bool :=
  match E.ty t, P.underlying t with
  | .int k, some (.int k') => kindB k k' && sizedB P E t && natsB (E.cts t) [t]
  | .bool, some .bool => sizedB P E t && natsB (E.cts t) [t]
  | .str, some .string => sizedB P E t && natsB (E.cts t) [t]
  | .slice e, some (.slice u) => Nat.beq u (E.num e) && sizedB P E t && natsB (E.cts t) [t]
  | .ptr e, some (.pointer u) => Nat.beq u e && sizedB P E t && natsB (E.cts t) [t]
  | .map k e, some (.map u v) => Nat.beq u (E.num k) && Nat.beq v (E.num e) && sizedB P E t && natsB (E.cts t) [t]
  | .func, some (.func _ _ _) => sizedB P E t && natsB (E.cts t) [t]
  | .iface, some (.interface _) => sizedB P E t && natsB (E.cts t) [t]
  | .struct fs, some (.struct gs) => fieldsB fs gs.toList && gs.all (fun f => f.name != "_") && sizedB P E t && !(P.stoodInHeld t) && !(P.eqGuardType P.depth t) && fs.all (fun p => sizedB P E p.1 && Nat.blt 0 (E.size p.1))
  | .array n e, some (.array m u) => Nat.beq n m && Nat.beq e u && sizedB P E t && sizedB P E e
  | .other, _ => true
  | _, _ => false
theorem tyB_spec {t : Nat} (h : tyB P E t = true) : TyOk P E t (E.ty t) := by
  unfold tyB at h
  split at h
  case h_12 => cases h
  case h_11 heq => rw [heq]; trivial
  all_goals
    rename_i h1 h2
    rw [h1]
    simp only [Bool.and_eq_true, kindB, decide_eq_true_eq] at h
  · obtain ⟨⟨rfl, h3⟩, h4⟩ := h; exact ⟨h2, sizedB_spec h3, natsB_spec h4⟩
  · exact ⟨h2, sizedB_spec h.1, natsB_spec h.2⟩
  · exact ⟨h2, sizedB_spec h.1, natsB_spec h.2⟩
  · obtain ⟨⟨h3, h4⟩, h5⟩ := h; exact ⟨by rw [h2, Nat.eq_of_beq_eq_true h3], sizedB_spec h4, natsB_spec h5⟩
  · obtain ⟨⟨h3, h4⟩, h5⟩ := h; exact ⟨by rw [h2, Nat.eq_of_beq_eq_true h3], sizedB_spec h4, natsB_spec h5⟩
  · obtain ⟨⟨⟨h3, h3'⟩, h4⟩, h5⟩ := h; exact ⟨by rw [h2, Nat.eq_of_beq_eq_true h3, Nat.eq_of_beq_eq_true h3'], sizedB_spec h4, natsB_spec h5⟩
  · exact ⟨⟨_, _, _, h2⟩, sizedB_spec h.1, natsB_spec h.2⟩
  · exact ⟨⟨_, h2⟩, sizedB_spec h.1, natsB_spec h.2⟩
  · obtain ⟨⟨⟨⟨⟨h3, h4⟩, h5⟩, h6⟩, h7⟩, h8⟩ := h
    refine ⟨⟨_, h2, fieldsB_spec h3, h4⟩, sizedB_spec h5, by simpa using h6, by simpa using h7, fun p hp => ?_⟩
    have := (List.all_eq_true.1 h8) p hp
    simp only [Bool.and_eq_true] at this
    exact ⟨sizedB_spec this.1, Nat.le_of_ble_eq_true this.2⟩
  · obtain ⟨⟨⟨h3, h4⟩, h5⟩, h6⟩ := h
    exact ⟨by rw [h2, Nat.eq_of_beq_eq_true h3, Nat.eq_of_beq_eq_true h4], sizedB_spec h5, sizedB_spec h6⟩

/-- A zero cell. -/
def zeq : V T → Value → Bool
  | .int k x, .int k' y => kindB k k' && decide (x = y)
  | .bool a, .bool b => decide (a = b)
  | .str [], .string s => s.data.toList.isEmpty
  | .sl _ [] .nil, .slice none 0 0 => true
  | .npt, .pointer none => true
  | .nmp, .map none => true
  | .nfn, .nilFunc => true
  | .nif, .nilIface => true
  | _, _ => false
theorem zeq_spec {v : V T} {x : Value} (h : zeq v x = true) : v.leaf = true ∧ x.oneCell' = true ∧ ∀ g, Rep E g v x := by
  unfold zeq at h
  split at h
  · simp only [Bool.and_eq_true, kindB, decide_eq_true_eq] at h
    obtain ⟨rfl, rfl⟩ := h
    exact ⟨rfl, rfl, fun g => .int g _ _⟩
  · simp only [decide_eq_true_eq] at h
    subst h
    exact ⟨rfl, rfl, fun g => .bool g _⟩
  · rename_i s
    obtain ⟨⟨l⟩⟩ := s
    have : l = [] := by simpa using h
    subst this
    exact ⟨rfl, rfl, fun g => .str g []⟩
  · exact ⟨rfl, rfl, fun g => .slnil _⟩
  · exact ⟨rfl, rfl, fun g => .npt⟩
  · exact ⟨rfl, rfl, fun g => .nmp⟩
  · exact ⟨rfl, rfl, fun g => .nfn⟩
  · exact ⟨rfl, rfl, fun g => .nif⟩
  · cases h
def zeqs : List (V T) → List Value → Bool
  | [], [] => true
  | v :: vs, x :: xs => zeq v x && zeqs vs xs
  | _, _ => false
theorem zeqs_spec {E : Env T} : ∀ {vs : List (V T)} {xs : List Value}, zeqs vs xs = true → leaves vs = true ∧ One xs ∧ ∀ g, Reps E g vs xs
  | [], [], _ => ⟨rfl, (fun _ h => by cases h), fun _ => .nil⟩
  | v :: vs, x :: xs, h => by
    simp only [zeqs, Bool.and_eq_true] at h
    obtain ⟨h1, h2, h3⟩ := zeq_spec (E := E) h.1
    obtain ⟨k1, k2, k3⟩ := zeqs_spec (E := E) h.2
    refine ⟨by simp [leaves, h1, k1], fun y hy => ?_, fun g => .cons (h3 g) (k3 g)⟩
    rcases List.mem_cons.1 hy with rfl | hy
    · exact h2
    · exact k2 y hy
  | [], _ :: _, h => by cases h
  | _ :: _, [], h => by cases h
def zeroB (P : Program) (E : Env T) (t : Nat) : Bool := match zeroC E t with
  | none => true
  | some cs => match P.info? t with
    | none => false
    | some i => match i.zero with
      | none => false
      | some z => match (E.ty t).agg, z with
        | true, .agg vs => zeqs cs vs.toList
        | true, _ => false
        | false, z => zeqs cs [z]
theorem zeroB_spec {t : Nat} (h : zeroB P E t = true) : ∀ cs, zeroC E t = some cs → ∃ i z vs, P.info? t = some i ∧ i.zero = some z ∧ CellsOf E t z vs ∧ One vs ∧ leaves cs = true ∧ ∀ g, Reps E g cs vs := fun cs hz => by
  unfold zeroB at h
  rw [hz] at h
  dsimp only at h
  split at h
  · cases h
  · rename_i i hi
    split at h
    · cases h
    · rename_i z hz'
      unfold CellsOf
      split at h
      · rename_i vs ha
        obtain ⟨h1, h2, h3⟩ := zeqs_spec (E := E) h
        exact ⟨i, _, vs.toList, hi, hz', by rw [ha], h2, h1, h3⟩
      · cases h
      · rename_i ha
        obtain ⟨h1, h2, h3⟩ := zeqs_spec (E := E) h
        exact ⟨i, _, _, hi, hz', by rw [ha], h2, h1, h3⟩
def elemB (P : Program) (E : Env T) (e : K) : Bool := match P.info? (E.num e) with
  | none => false
  | some i => match i.zero with
    | none => false
    | some z => Nat.beq i.size (E.size (E.num e)) && Nat.beq z.cells.size i.size && Nat.beq i.bytes (E.bytes e) && Nat.blt 0 i.bytes && Nat.blt 0 i.size
theorem elemB_spec {e : K} (h : elemB P E e = true) : ∃ i z, P.info? (E.num e) = some i ∧ i.zero = some z ∧ i.size = E.size (E.num e) ∧ z.cells.size = i.size ∧ i.bytes = E.bytes e ∧ 0 < i.bytes ∧ 0 < i.size := by
  unfold elemB at h
  split at h
  · cases h
  · rename_i i hi
    split at h
    · cases h
    · rename_i z hz
      simp only [Bool.and_eq_true] at h
      obtain ⟨⟨⟨⟨h1, h2⟩, h3⟩, h4⟩, h5⟩ := h
      exact ⟨i, z, hi, hz, Nat.eq_of_beq_eq_true h1, Nat.eq_of_beq_eq_true h2, Nat.eq_of_beq_eq_true h3, Nat.le_of_ble_eq_true h4, Nat.le_of_ble_eq_true h5⟩

/-- A cell of plain data loses its right. -/
def V.frz : V T → Option (V T)
  | .int k x => some (.int k x)
  | .bool b => some (.bool b)
  | .str s => some (.str s)
  | .sl e xs _ => some (.sl e xs .no)
  | _ => none
def frzs : List (V T) → Option (List (V T))
  | [] => some []
  | v :: vs => match v.frz, frzs vs with
    | some v, some vs => some (v :: vs)
    | _, _ => none
theorem frz_fc {g : Gh} {v u : V T} {x : Value} (h : v.frz = some u) (hr : Rep E g v x) : Fc E g.G u x := by
  unfold V.frz at h
  split at h <;> simp only [Option.some.injEq, reduceCtorEq] at h <;> subst h
  · rw [hr.int_inv]; exact .int _ _
  · rw [hr.bool_inv]; exact .bool _
  · rw [hr.str_inv]; exact .str _
  · obtain ⟨_, _, h, _⟩ := hr.sl_inv; exact h
theorem frzs_fcs {g : Gh} : ∀ {vs us : List (V T)} {xs : List Value}, frzs vs = some us → Reps E g vs xs → Fcs E g.G us xs
  | [], us, xs, h, hr => by
    cases hr
    simp only [frzs, Option.some.injEq] at h
    subst h
    exact .nil
  | v :: vs, us, xs, h, hr => by
    cases hr with
    | cons h1 h2 =>
      simp only [frzs] at h
      split at h
      · rename_i a b
        simp only [Option.some.injEq] at h
        subst h
        exact .cons (frz_fc a h1) (frzs_fcs b h2)
      · cases h

def belowB (f : Nat → Bool) : Nat → Bool
  | 0 => true
  | n + 1 => f n && belowB f n
theorem belowB_spec {f : Nat → Bool} : ∀ {n : Nat}, belowB f n = true → ∀ t, t < n → f t = true
  | 0, _, t, h => by omega
  | n + 1, hb, t, h => by
    simp only [belowB, Bool.and_eq_true] at hb
    by_cases e : t = n
    · subst e; exact hb.1
    · exact belowB_spec hb.2 t (by omega)
def mask : List Func → List Bool → List (Option Func)
  | f :: fs, b :: bs => (match b with
    | true => some f
    | false => none) :: mask fs bs
  | _, _ => []
theorem mask_get : ∀ {l : List Func} {bs : List Bool} {i : Nat} {fn : Func}, (mask l bs)[i]? = some (some fn) → l[i]? = some fn
  | [], bs, i, fn, h => by simp [mask] at h
  | f :: fs, [], i, fn, h => by simp [mask] at h
  | f :: fs, b :: bs, 0, fn, h => by
    cases b <;> simp [mask] at h
    simp [h]
  | f :: fs, b :: bs, i + 1, fn, h => by
    simp only [mask, List.getElem?_cons_succ] at h ⊢
    exact mask_get h
theorem fns_of {t : Nat → Option Func} {n : Nat} {bs : List Bool} (h0 : ∀ f, n ≤ f → t f = none) (h1 : (List.range n).map t = mask (P.funcs.toList.take n) bs) (h2 : (P.funcs.toList.take n).all (fun fn => !(fn.name == "runtime.NumGoroutine")) = true) :
    ∀ (f : Nat) (fn : Func), t f = some fn → P.funcs[f]? = some fn ∧ fn.name ≠ "runtime.NumGoroutine" := fun f fn h => by
  have hlt : f < n := Nat.lt_of_not_le fun hle => by rw [h0 f hle] at h; cases h
  have h3 : ((List.range n).map t)[f]? = some (some fn) := by simp [hlt, h]
  rw [h1] at h3
  have h4 := mask_get h3
  refine ⟨?_, ?_⟩
  · rw [List.getElem?_take, if_pos hlt] at h4
    simpa using h4
  · have := List.all_eq_true.1 h2 fn (List.mem_of_getElem? h4)
    simpa using this

theorem backOf_ok {l : List (Nat × K)} (h : l.all (fun p => isBack E p.1 p.2) = true) : ∀ f e, backOf l f = some e → isBack E f e = true := by
  induction l with
  | nil => intro f e he; simp [backOf] at he
  | cons p l ih =>
    intro f e he
    simp only [List.all_cons, Bool.and_eq_true] at h
    obtain ⟨g, e'⟩ := p
    simp only [backOf] at he
    split at he
    · rename_i hb
      have := Nat.eq_of_beq_eq_true hb
      subst this
      simp only [Option.some.injEq] at he
      subst he
      exact h.1
    · exact ih h.2 f e he
/-- The tables pass. -/
structure Passes (P : Program) (E : Env T) (N : Nat) : Prop where
  mixed : P.follows .mixedOrders = true
  ty : belowB (tyB P E) N = true
  tyo : ∀ t, N ≤ t → E.ty t = .other
  zero : belowB (zeroB P E) N = true
  cto : ∀ t, N ≤ t → E.cts t = [N]
  elem : ∀ e, elemB P E e = true
  len : ∀ e x, (E.enc e x).length = E.size (E.num e)
  dec : ∀ e cs x, E.dec e cs = some x → frzs cs = some (E.enc e x)
  key : ∀ e, keyedT E (E.num e) = true → ∀ a b, eqT E 100 (E.num e) (E.enc e a) (E.enc e b) = some (E.eqb e a b)
  fns : ∀ f fn, E.fns f = some fn → P.funcs[f]? = some fn ∧ fn.name ≠ "runtime.NumGoroutine"
  back : ∀ f e, E.back f = some e → isBack E f e = true
theorem Passes.ok {N : Nat} (h : Passes P E N) : EnvOk P E where
  mixed := h.mixed
  ty t := by
    by_cases ht : t < N
    · exact tyB_spec (belowB_spec h.ty t ht)
    · rw [h.tyo t (by omega)]; trivial
  zero t cs hz := by
    by_cases ht : t < N
    · exact zeroB_spec (belowB_spec h.zero t ht) cs hz
    · unfold zeroC at hz
      rw [h.cto t (by omega)] at hz
      simp [zerosL, zeroL, h.tyo N (Nat.le_refl _)] at hz
  elem e := elemB_spec (h.elem e)
  encLen := h.len
  dec g e cs x vs hd hr := frzs_fcs (h.dec e cs x hd) hr
  key := h.key
  fns := h.fns
  back := h.back
end Go.Proofs.YtnenfgpjedddoaaGreat.AI

/- Runs as decision trees; closed runs. -/
set_option linter.unusedVariables false
set_option linter.unusedSectionVars false
set_option linter.unusedSimpArgs false
namespace Go.Proofs.YtnenfgpjedddoaaGreat.AI
open Go

variable {K : Type} [DecidableEq K] {T : K → Type}

/-- What calls give: a type of descriptions for each function, and what they stand for. -/
structure Say (T : K → Type) where
  R : Nat → Type
  res : (f : Nat) → R f → V T × List (Ob T)

inductive Tr {K : Type} {T : K → Type} (S : Say T) : Type where
  | need (b : Bool) (t : Tr S)
  | br (b : Bool) (t u : Tr S)
  | fork (b : Bool) (t u : Tr S)
  | call (f : Nat) (args : List (V T)) (obs : List (Ob T)) (k : S.R f → Tr S)
  | ret (v : V T) (st : List (Ob T))
  | stop (c : Cfg T)

/-- Where a way is known beforehand. -/
inductive Hint where
  | any
  | two (a b : Hint)
  | yes (a : Hint)
  | no (a : Hint)
def tree (E : Env T) (S : Say T) : Nat → Hint → Cfg T → Tr S
  | 0, _, c => .stop c
  | n + 1, h, c => match step E c with
    | .go c => tree E S n h c
    | .need b c => .need b (tree E S n h c)
    | .br b c d => match h with
      | .any => .br b (tree E S n .any c) (tree E S n .any d)
      | .two h1 h2 => .br b (tree E S n h1 c) (tree E S n h2 d)
      | .yes h1 => .need b (tree E S n h1 c)
      | .no h1 => .need (!b) (tree E S n h1 d)
    | .fork b c d => match h with
      | .two h1 h2 => .fork b (tree E S n h1 c) (tree E S n h2 d)
      | _ => .fork b (tree E S n .any c) (tree E S n .any d)
    | .call f args obs k => .call f args obs fun r => tree E S n h (k (S.res f r).1 (S.res f r).2)
    | .ret v st => .ret v st
    | .cut c => .stop c
    | .stuck => .stop c
/-- A call is known, or runs. -/
def Calld (E : Env T) (X : Nat → List (V T) → List (Ob T) → V T → List (Ob T) → Prop) (f : Nat) (args : List (V T)) (obs : List (Ob T)) (r : V T) (obs' : List (Ob T)) : Prop :=
  X f args obs r obs' ∨ ∃ e, entry E f args obs = some e ∧ Runs E X e r obs'
def Tr.ok {S : Say T} (E : Env T) (X : Nat → List (V T) → List (Ob T) → V T → List (Ob T) → Prop) (v : V T) (st : List (Ob T)) : Tr S → Prop
  | .need b t => b = true ∧ t.ok E X v st
  | .br b t u => (b = true → t.ok E X v st) ∧ (b = false → u.ok E X v st)
  | .fork b t u => u.ok E X v st ∧ (b = true → t.ok E X v st)
  | .call f args obs k => ∃ r, Calld E X f args obs (S.res f r).1 (S.res f r).2 ∧ (k r).ok E X v st
  | .ret v' st' => v' = v ∧ st' = st
  | .stop c => Runs E X c v st
/-- Some needs that are met. -/
def nd {S : Say T} : Nat → Tr S → Tr S
  | 0, t => t
  | n + 1, t => .need true (nd n t)
theorem nd_ok {S : Say T} {E : Env T} {X : Nat → List (V T) → List (Ob T) → V T → List (Ob T) → Prop} {v : V T} {st : List (Ob T)} {t : Tr S} : ∀ {n : Nat}, (nd n t).ok E X v st = t.ok E X v st
  | 0 => rfl
  | n + 1 => by
    have : (nd (n + 1) t).ok E X v st = (true = true ∧ (nd n t).ok E X v st) := rfl
    rw [this, nd_ok (n := n)]
    simp
theorem tree_ok {E : Env T} {S : Say T} {X : Nat → List (V T) → List (Ob T) → V T → List (Ob T) → Prop} {v : V T} {st : List (Ob T)} : ∀ (n : Nat) (h : Hint) (c : Cfg T), (tree E S n h c).ok E X v st → Runs E X c v st
  | 0, _, c, h => h
  | n + 1, hh, c, h => by
    unfold tree at h
    split at h
    · rename_i hs; exact .go hs (tree_ok n _ _ h)
    · rename_i hs
      obtain ⟨rfl, h⟩ := h
      exact .need hs (tree_ok n _ _ h)
    · rename_i b c1 d1 hs
      split at h
      · exact .br hs (fun hb => tree_ok n _ _ (h.1 hb)) (fun hb => tree_ok n _ _ (h.2 hb))
      · exact .br hs (fun hb => tree_ok n _ _ (h.1 hb)) (fun hb => tree_ok n _ _ (h.2 hb))
      · exact .br hs (fun hb => tree_ok n _ _ h.2) (fun hb => by rw [h.1] at hb; cases hb)
      · exact .br hs (fun hb => by rw [hb] at h; cases h.1) (fun hb => tree_ok n _ _ h.2)
    · rename_i hs
      split at h
      · exact .fork hs (tree_ok n _ _ h.1) (fun hb => tree_ok n _ _ (h.2 hb))
      · exact .fork hs (tree_ok n _ _ h.1) (fun hb => tree_ok n _ _ (h.2 hb))
    · rename_i hs
      obtain ⟨r, hc | ⟨e, he, hr⟩, hk⟩ := h
      · exact .ext hs hc (tree_ok n _ _ hk)
      · exact .enter hs he hr (tree_ok n _ _ hk)
    · rename_i hs
      obtain ⟨rfl, rfl⟩ := h
      exact .ret hs
    · rename_i hs; exact .cut hs h
    · exact h
/-- By a tree that is written out. -/
theorem runs_by {E : Env T} {S : Say T} {X : Nat → List (V T) → List (Ob T) → V T → List (Ob T) → Prop} {v : V T} {st : List (Ob T)} {n : Nat} {hh : Hint} {c : Cfg T} {t : Tr S} (h : tree E S n hh c = t) (k : t.ok E X v st) : Runs E X c v st :=
  tree_ok n hh c (by rw [h]; exact k)
theorem calld_by {E : Env T} {X : Nat → List (V T) → List (Ob T) → V T → List (Ob T) → Prop} {f : Nat} {args : List (V T)} {obs obs' : List (Ob T)} {r : V T} {e : Cfg T} (h : entry E f args obs = some e) (k : Runs E X e r obs') : Calld E X f args obs r obs' := .inr ⟨e, h, k⟩

/-- A closed run. -/
theorem evalN_runs {E : Env T} {X : Nat → List (V T) → List (Ob T) → V T → List (Ob T) → Prop} {ext : Nat → List (V T) → List (Ob T) → Option (V T × List (Ob T))} (hx : ∀ f args obs v st, ext f args obs = some (v, st) → Calld E X f args obs v st) :
    ∀ (n : Nat) (c : Cfg T) {v : V T} {st : List (Ob T)}, evalN E ext n c = some (v, st) → Runs E X c v st
  | 0, c, v, st, h => by simp [evalN] at h
  | n + 1, c, v, st, h => by
    unfold evalN at h
    split at h
    · rename_i hs; exact .go hs (evalN_runs hx n _ h)
    · rename_i hs
      split at h
      · exact .need hs (evalN_runs hx n _ h)
      · cases h
    · rename_i hs
      split at h
      · exact .br hs (fun _ => evalN_runs hx n _ h) (fun hb => by cases hb)
      · exact .br hs (fun hb => by cases hb) (fun _ => evalN_runs hx n _ h)
    · rename_i hs
      split at h
      · cases h
      · exact .fork hs (evalN_runs hx n _ h) (fun hb => by cases hb)
    · rename_i hs
      split at h
      · rename_i he
        rcases hx _ _ _ _ _ he with hc | ⟨e, he2, hr⟩
        · exact .ext hs hc (evalN_runs hx n _ h)
        · exact .enter hs he2 hr (evalN_runs hx n _ h)
      · split at h
        · rename_i he
          split at h
          · rename_i hr
            exact .enter hs he (evalN_runs hx n _ hr) (evalN_runs hx n _ h)
          · cases h
        · cases h
    · rename_i hs
      simp only [Option.some.injEq, Prod.mk.injEq] at h
      obtain ⟨rfl, rfl⟩ := h
      exact .ret hs
    · rename_i hs; exact .cut hs (evalN_runs hx n _ h)
    · cases h

/-! ### Where a function goes on -/
/-- What stands ahead at a region. -/
def locate (r : Nat) : Code → List (Item T) → Option (List (Item T))
  | .region id ops d, k => match Nat.beq id r with
    | true => some (.reg id ops d :: k)
    | false => none
  | .seq a b, k => match locate r a (.code b :: k) with
    | some l => some l
    | none => locate r b k
  | .cond _ a b, k => match locate r a k with
    | some l => some l
    | none => locate r b k
  | .block id body, k => locate r body (.inBlock id :: k)
  | .loop body, k => locate r body (.inLoop body none :: k)
  | _, _ => none
/-- A function at a cut. -/
def atCut (E : Env T) (f r keep : Nat) (fr : Fr T) (st : List (Ob T)) : Cfg T :=
  match E.fns f with
  | some fn => { todo := (locate r (fn.body.getD .skip) [.code .ret]).getD [], fr := fr, st := st, fn := f, keep := keep, n := fn.ntmps, res := fn.results.toList }
  | none => { todo := [], fr := fr, st := st, fn := f, keep := keep, n := 0, res := [] }
/-- Where a loop over a function stands, by its first variable. -/
def locateR (p : Nat) : Code → List (Item T) → Option (Nat × Code × Code × List (Item T))
  | .rangeFunc _ ps assign body, k => match ps.toList with
    | [a, b] => match Nat.beq a p with
      | true => some (b, assign, body, k)
      | false => none
    | _ => none
  | .seq a b, k => match locateR p a (.code b :: k) with
    | some l => some l
    | none => locateR p b k
  | .cond _ a b, k => match locateR p a k with
    | some l => some l
    | none => locateR p b k
  | .block id body, k => locateR p body (.inBlock id :: k)
  | .loop body, k => locateR p body (.inLoop body none :: k)
  | _, _ => none
/-- A function at such a loop's head. -/
def atHead (E : Env T) (f p keep : Nat) (e : K) (cap : V T) (i : Nat) (fr : Fr T) (st : List (Ob T)) : Cfg T :=
  match E.fns f with
  | some fn => match locateR p (fn.body.getD .skip) [.code .ret] with
    | some (q, assign, body, k) => { todo := .head ⟨e, cap, p, q, assign, body⟩ i :: k, fr := fr, st := st, fn := f, keep := keep, n := fn.ntmps, res := fn.results.toList }
    | none => { todo := [], fr := fr, st := st, fn := f, keep := keep, n := 0, res := [] }
  | none => { todo := [], fr := fr, st := st, fn := f, keep := keep, n := 0, res := [] }
def entryC (E : Env T) (f : Nat) (args : List (V T)) (st : List (Ob T)) : Cfg T := (entry E f args st).getD { todo := [], fr := [], st := [], fn := 0, keep := 0, n := 0, res := [] }
theorem calld_run {E : Env T} {X : Nat → List (V T) → List (Ob T) → V T → List (Ob T) → Prop} {f : Nat} {args : List (V T)} {obs obs' : List (Ob T)} {r : V T} (h : (entry E f args obs).isSome = true) (k : Runs E X (entryC E f args obs) r obs') : Calld E X f args obs r obs' := by
  unfold entryC at k
  cases he : entry E f args obs with
  | none => rw [he] at h; cases h
  | some e => rw [he] at k; exact .inr ⟨e, he, k⟩
theorem calld_callee {E : Env T} {P : Program} (hE : EnvOk P E) {X : Nat → List (V T) → List (Ob T) → V T → List (Ob T) → Prop} (hX : ∀ f args obs r obs', X f args obs r obs' → Callee P E f args obs r obs') {f : Nat} {args : List (V T)} {obs obs' : List (Ob T)} {r : V T}
    (h : Calld E X f args obs r obs') : Callee P E f args obs r obs' := by
  rcases h with h | ⟨e, he, hr⟩
  · exact hX _ _ _ _ _ h
  · exact runs_callee hE hX he hr
end Go.Proofs.YtnenfgpjedddoaaGreat.AI

/- Closed runs in which some calls are answered: the calls that were answered are listed. -/
set_option linter.unusedVariables false
set_option linter.unusedSectionVars false
set_option linter.unusedSimpArgs false
namespace Go.Proofs.YtnenfgpjedddoaaGreat.AI
open Go

variable {K : Type} [DecidableEq K] {T : K → Type}

/-- A call that was answered; two ways that must end alike. -/
inductive Ev {K : Type} (T : K → Type) : Type where
  | call (f : Nat) (args : List (V T)) (obs : List (Ob T)) (r : V T × List (Ob T))
  | same (r s : V T × List (Ob T))
inductive EvsOk (E : Env T) (X : Nat → List (V T) → List (Ob T) → V T → List (Ob T) → Prop) : List (Ev T) → Prop
  | nil : EvsOk E X []
  | call {f args obs r l} (h : Calld E X f args obs r.1 r.2) (k : EvsOk E X l) : EvsOk E X (.call f args obs r :: l)
  | same {r l} (k : EvsOk E X l) : EvsOk E X (.same r r :: l)
theorem EvsOk.append {E : Env T} {X : Nat → List (V T) → List (Ob T) → V T → List (Ob T) → Prop} : ∀ {l m : List (Ev T)}, EvsOk E X (l ++ m) → EvsOk E X l ∧ EvsOk E X m
  | [], m, h => ⟨.nil, h⟩
  | _ :: l, m, h => by
    cases h with
    | call h k => exact ⟨.call h k.append.1, k.append.2⟩
    | same k => exact ⟨.same k.append.1, k.append.2⟩
abbrev Rt {K : Type} (T : K → Type) := V T × List (Ob T)
/-- 'ans' says for each call of the functions of S, one after another, whether it is answered, and how. -/
def evalH (E : Env T) (S : Nat → Bool) : Nat → List (Option (Rt T)) → Cfg T → Option (Rt T × List (Ev T) × List (Option (Rt T)))
  | 0, _, _ => none
  | n + 1, ans, c => match step E c with
    | .go c => evalH E S n ans c
    | .need b c => match b with
      | true => evalH E S n ans c
      | false => none
    | .br b c d => match b with
      | true => evalH E S n ans c
      | false => evalH E S n ans d
    | .fork b c d => match b with
      | true => match evalH E S n ans d with
        | none => none
        | some (r, tr, ans) => match evalH E S n ans c with
          | none => none
          | some (s, tr', ans) => some (r, .same s r :: (tr ++ tr'), ans)
      | false => evalH E S n ans d
    | .call f args obs k => match (match S f with
        | true => match ans with
          | [] => (none, [])
          | a :: ans => (a, ans)
        | false => (none, ans)) with
      | (some (v, st), ans) => match evalH E S n ans (k v st) with
          | some (r, tr, ans) => some (r, .call f args obs (v, st) :: tr, ans)
          | none => none
      | (none, ans) => match entry E f args obs with
        | none => none
        | some e => match evalH E S n ans e with
          | none => none
          | some ((v, st), tr, ans) => match evalH E S n ans (k v st) with
            | some (r, tr', ans) => some (r, tr ++ tr', ans)
            | none => none
    | .ret v st => some ((v, st), [], ans)
    | .cut c => evalH E S n ans c
    | .stuck => none
theorem evalH_runs {E : Env T} {X : Nat → List (V T) → List (Ob T) → V T → List (Ob T) → Prop} {S : Nat → Bool} :
    ∀ (n : Nat) (ans : List (Option (Rt T))) (c : Cfg T) {v : V T} {st : List (Ob T)} {tr : List (Ev T)} {rest : List (Option (Rt T))}, evalH E S n ans c = some ((v, st), tr, rest) →
      EvsOk E X tr → Runs E X c v st
  | 0, ans, c, v, st, tr, rest, h, _ => by simp [evalH] at h
  | n + 1, ans, c, v, st, tr, rest, h, hx => by
    unfold evalH at h
    split at h
    · rename_i hs; exact .go hs (evalH_runs n _ _ h hx)
    · rename_i hs
      split at h
      · exact .need hs (evalH_runs n _ _ h hx)
      · cases h
    · rename_i hs
      split at h
      · exact .br hs (fun _ => evalH_runs n _ _ h hx) (fun hb => by cases hb)
      · exact .br hs (fun hb => by cases hb) (fun _ => evalH_runs n _ _ h hx)
    · rename_i hs
      split at h
      · split at h
        · cases h
        · rename_i hd
          split at h
          · cases h
          · rename_i hc
            simp only [Option.some.injEq, Prod.mk.injEq] at h
            obtain ⟨rfl, rfl, rfl⟩ := h
            cases hx with
            | same k => exact .fork hs (evalH_runs n _ _ hd k.append.1) (fun _ => evalH_runs n _ _ hc k.append.2)
      · exact .fork hs (evalH_runs n _ _ h hx) (fun hb => by cases hb)
    · rename_i hs
      split at h
      · split at h
        · rename_i hr
          simp only [Option.some.injEq, Prod.mk.injEq] at h
          obtain ⟨⟨rfl, rfl⟩, rfl, rfl⟩ := h
          cases hx with
          | call hc k =>
            rcases hc with hc | ⟨e, he2, hr2⟩
            · exact .ext hs hc (evalH_runs n _ _ hr k)
            · exact .enter hs he2 hr2 (evalH_runs n _ _ hr k)
        · cases h
      · split at h
        · cases h
        · rename_i he
          split at h
          · cases h
          · rename_i hr
            split at h
            · rename_i hr2
              simp only [Option.some.injEq, Prod.mk.injEq] at h
              obtain ⟨⟨rfl, rfl⟩, rfl, rfl⟩ := h
              exact .enter hs he (evalH_runs n _ _ hr hx.append.1) (evalH_runs n _ _ hr2 hx.append.2)
            · cases h
    · rename_i hs
      simp only [Option.some.injEq, Prod.mk.injEq] at h
      obtain ⟨⟨rfl, rfl⟩, rfl, rfl⟩ := h
      exact .ret hs
    · rename_i hs; exact .cut hs (evalH_runs n _ _ h hx)
    · cases h
def inL (n : Nat) : List Nat → Bool
  | [] => false
  | m :: l => match Nat.beq m n with
    | true => true
    | false => inL n l
/-- A call's run, with some calls answered. -/
def callH (E : Env T) (S : List Nat) (n : Nat) (ans : List (Option (Rt T))) (f : Nat) (args : List (V T)) (obs : List (Ob T)) : Option (Rt T × List (Ev T) × List (Option (Rt T))) :=
  match entry E f args obs with
  | some e => evalH E (fun g => inL g S) n ans e
  | none => none
theorem calld_H {E : Env T} {X : Nat → List (V T) → List (Ob T) → V T → List (Ob T) → Prop} {S : List Nat} {n : Nat} {ans : List (Option (Rt T))} {f : Nat} {args : List (V T)} {obs : List (Ob T)} {r : Rt T} {tr : List (Ev T)} {rest : List (Option (Rt T))}
    (h : callH E S n ans f args obs = some (r, tr, rest)) (k : EvsOk E X tr) : Calld E X f args obs r.1 r.2 := by
  unfold callH at h
  split at h
  · rename_i e he
    exact .inr ⟨e, he, evalH_runs n ans e h k⟩
  · cases h
/-- As far as the function's cut number m. -/
def segH (E : Env T) (S : Nat → Bool) : Nat → Nat → List (Option (Rt T)) → Cfg T → Option (Cfg T × List (Ev T) × List (Option (Rt T)))
  | 0, _, _, _ => none
  | n + 1, m, ans, c => match step E c with
    | .go c => segH E S n m ans c
    | .need b c => match b with
      | true => segH E S n m ans c
      | false => none
    | .br b c d => match b with
      | true => segH E S n m ans c
      | false => segH E S n m ans d
    | .fork b c d => match b with
      | true => none
      | false => segH E S n m ans d
    | .call f args obs k => match (match S f with
        | true => match ans with
          | [] => (none, [])
          | a :: ans => (a, ans)
        | false => (none, ans)) with
      | (some (v, st), ans) => match segH E S n m ans (k v st) with
          | some (r, tr, ans) => some (r, .call f args obs (v, st) :: tr, ans)
          | none => none
      | (none, ans) => match entry E f args obs with
        | none => none
        | some e => match evalH E S n ans e with
          | none => none
          | some ((v, st), tr, ans) => match segH E S n m ans (k v st) with
            | some (r, tr', ans) => some (r, tr ++ tr', ans)
            | none => none
    | .ret v st => none
    | .cut c => match m with
      | 0 => some (c, [], ans)
      | m + 1 => segH E S n m ans c
    | .stuck => none
theorem segH_runs {E : Env T} {X : Nat → List (V T) → List (Ob T) → V T → List (Ob T) → Prop} {S : Nat → Bool} {v : V T} {st : List (Ob T)} :
    ∀ (n m : Nat) (ans : List (Option (Rt T))) (c : Cfg T) {c' : Cfg T} {tr : List (Ev T)} {rest : List (Option (Rt T))}, segH E S n m ans c = some (c', tr, rest) →
      EvsOk E X tr → Runs E X c' v st → Runs E X c v st
  | 0, m, ans, c, c', tr, rest, h, _, _ => by simp [segH] at h
  | n + 1, m, ans, c, c', tr, rest, h, hx, hr => by
    unfold segH at h
    split at h
    · rename_i hs; exact .go hs (segH_runs n m _ _ h hx hr)
    · rename_i hs
      split at h
      · exact .need hs (segH_runs n m _ _ h hx hr)
      · cases h
    · rename_i hs
      split at h
      · exact .br hs (fun _ => segH_runs n m _ _ h hx hr) (fun hb => by cases hb)
      · exact .br hs (fun hb => by cases hb) (fun _ => segH_runs n m _ _ h hx hr)
    · rename_i hs
      split at h
      · cases h
      · exact .fork hs (segH_runs n m _ _ h hx hr) (fun hb => by cases hb)
    · rename_i hs
      split at h
      · split at h
        · rename_i hr1
          simp only [Option.some.injEq, Prod.mk.injEq] at h
          obtain ⟨rfl, rfl, rfl⟩ := h
          cases hx with
          | call hc k =>
            rcases hc with hc | ⟨e, he2, hr2⟩
            · exact .ext hs hc (segH_runs n m _ _ hr1 k hr)
            · exact .enter hs he2 hr2 (segH_runs n m _ _ hr1 k hr)
        · cases h
      · split at h
        · cases h
        · rename_i he
          split at h
          · cases h
          · rename_i hr1
            split at h
            · rename_i hr2
              simp only [Option.some.injEq, Prod.mk.injEq] at h
              obtain ⟨rfl, rfl, rfl⟩ := h
              exact .enter hs he (evalH_runs n _ _ hr1 hx.append.1) (segH_runs n m _ _ hr2 hx.append.2 hr)
            · cases h
    · cases h
    · rename_i hs
      split at h
      · simp only [Option.some.injEq, Prod.mk.injEq] at h
        obtain ⟨rfl, rfl, rfl⟩ := h
        exact .cut hs hr
      · exact .cut hs (segH_runs n _ _ _ h hx hr)
    · cases h
def callS (E : Env T) (S : List Nat) (n m : Nat) (ans : List (Option (Rt T))) (f : Nat) (args : List (V T)) (obs : List (Ob T)) : Option (Cfg T × List (Ev T) × List (Option (Rt T))) :=
  match entry E f args obs with
  | some e => segH E (fun g => inL g S) n m ans e
  | none => none
theorem calld_S {E : Env T} {X : Nat → List (V T) → List (Ob T) → V T → List (Ob T) → Prop} {S : List Nat} {n m : Nat} {ans : List (Option (Rt T))} {f : Nat} {args : List (V T)} {obs : List (Ob T)} {r : Rt T} {tr : List (Ev T)} {rest : List (Option (Rt T))} {c' : Cfg T}
    (h : callS E S n m ans f args obs = some (c', tr, rest)) (k : EvsOk E X tr) (hr : Runs E X c' r.1 r.2) : Calld E X f args obs r.1 r.2 := by
  unfold callS at h
  split at h
  · rename_i e he
    exact .inr ⟨e, he, segH_runs n m ans e h k hr⟩
  · cases h
theorem runs_S {E : Env T} {X : Nat → List (V T) → List (Ob T) → V T → List (Ob T) → Prop} {S : List Nat} {n m : Nat} {ans : List (Option (Rt T))} {c c' : Cfg T} {r : Rt T} {tr : List (Ev T)} {rest : List (Option (Rt T))}
    (h : segH E (fun g => inL g S) n m ans c = some (c', tr, rest)) (k : EvsOk E X tr) (hr : Runs E X c' r.1 r.2) : Runs E X c r.1 r.2 := segH_runs n m ans c h k hr
theorem runs_H {E : Env T} {X : Nat → List (V T) → List (Ob T) → V T → List (Ob T) → Prop} {S : List Nat} {n : Nat} {ans : List (Option (Rt T))} {c : Cfg T} {r : Rt T} {tr : List (Ev T)} {rest : List (Option (Rt T))}
    (h : evalH E (fun g => inL g S) n ans c = some (r, tr, rest)) (k : EvsOk E X tr) : Runs E X c r.1 r.2 := evalH_runs n ans c h k
end Go.Proofs.YtnenfgpjedddoaaGreat.AI
