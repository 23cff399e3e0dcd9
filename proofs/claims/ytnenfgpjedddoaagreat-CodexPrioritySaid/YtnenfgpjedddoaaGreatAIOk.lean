/- What is asked of the tables, as a test that the kernel runs. -/
import Derived.Test.YtnenfgpjedddoaaGreatAIRun4
set_option linter.unusedVariables false
set_option linter.unusedSectionVars false
set_option linter.unusedSimpArgs false
namespace Go.Proofs.YtnenfgpjedddoaaGreat.AI
open Go

variable {K : Type} [DecidableEq K] {T : K → Type} {E : Env T} {P : Program}

def sizedB (P : Program) (E : Env T) (t : Nat) : Bool := match P.info? t with
  | some i => Nat.beq i.size (E.size t)
  | none => false
theorem sizedB_spec {t : Nat} (h : sizedB P E t = true) : Sized P E t := by
  unfold sizedB at h
  split at h
  · rename_i i hi
    exact ⟨i, hi, Nat.eq_of_beq_eq_true h⟩
  · cases h
def natsB : List Nat → List Nat → Bool
  | [], [] => true
  | a :: as, b :: bs => Nat.beq a b && natsB as bs
  | _, _ => false
theorem natsB_spec : ∀ {as bs : List Nat}, natsB as bs = true → as = bs
  | [], [], _ => rfl
  | a :: as, b :: bs, h => by
    simp only [natsB, Bool.and_eq_true] at h
    rw [Nat.eq_of_beq_eq_true h.1, natsB_spec h.2]
  | [], _ :: _, h => by cases h
  | _ :: _, [], h => by cases h
def fieldsB : List (Nat × Nat) → List Field → Bool
  | [], [] => true
  | (t, o) :: fs, f :: gs => Nat.beq t f.type && Nat.beq o f.offset && fieldsB fs gs
  | _, _ => false
theorem fieldsB_spec : ∀ {fs : List (Nat × Nat)} {gs : List Field}, fieldsB fs gs = true → fs = gs.map fun f => (f.type, f.offset)
  | [], [], _ => rfl
  | (t, o) :: fs, f :: gs, h => by
    simp only [fieldsB, Bool.and_eq_true] at h
    rw [Nat.eq_of_beq_eq_true h.1.1, Nat.eq_of_beq_eq_true h.1.2, fieldsB_spec h.2]
    rfl
  | [], _ :: _, h => by cases h
  | _ :: _, [], h => by cases h
def kindB : IntKind → IntKind → Bool := fun a b => decide (a = b)
/-- One type's row of the table. -/
def tyB (P : Program) (E : Env T) (t : Nat) : Bool :=
  match E.ty t, P.underlying t with
  | .int k, some (.int k') => kindB k k' && sizedB P E t && natsB (E.cts t) [t]
  | .bool, some .bool => sizedB P E t && natsB (E.cts t) [t]
  | .str, some .string => sizedB P E t && natsB (E.cts t) [t]
  | .slice e, some (.slice u) => Nat.beq u (E.num e) && sizedB P E t && natsB (E.cts t) [t]
  | .ptr e, some (.pointer u) => Nat.beq u e && sizedB P E t && natsB (E.cts t) [t]
  | .map k e, some (.map u v) => Nat.beq u (E.num k) && Nat.beq v (E.num e) && sizedB P E t && natsB (E.cts t) [t]
  | .func, some (.func _ _ _) => sizedB P E t && natsB (E.cts t) [t]
  | .iface, some (.interface _) => sizedB P E t && natsB (E.cts t) [t]
  | .struct fs, some (.struct gs) => fieldsB fs gs.toList && gs.all (fun f => f.name != "_") && sizedB P E t && !(P.stoodInHeld t) && !(P.eqGuardType P.depth t) && fs.all (fun p => sizedB P E p.1 && Nat.blt 0 (E.size p.1))
  | .array n e, some (.array m u) => Nat.beq n m && Nat.beq e u && sizedB P E t && sizedB P E e
  | .other, _ => true
  | _, _ => false
theorem tyB_spec {t : Nat} (h : tyB P E t = true) : TyOk P E t (E.ty t) := by
  unfold tyB at h
  split at h
  case h_12 => cases h
  case h_11 heq => rw [heq]; trivial
  all_goals
    rename_i h1 h2
    rw [h1]
    simp only [Bool.and_eq_true, kindB, decide_eq_true_eq] at h
  · obtain ⟨⟨rfl, h3⟩, h4⟩ := h; exact ⟨h2, sizedB_spec h3, natsB_spec h4⟩
  · exact ⟨h2, sizedB_spec h.1, natsB_spec h.2⟩
  · exact ⟨h2, sizedB_spec h.1, natsB_spec h.2⟩
  · obtain ⟨⟨h3, h4⟩, h5⟩ := h; exact ⟨by rw [h2, Nat.eq_of_beq_eq_true h3], sizedB_spec h4, natsB_spec h5⟩
  · obtain ⟨⟨h3, h4⟩, h5⟩ := h; exact ⟨by rw [h2, Nat.eq_of_beq_eq_true h3], sizedB_spec h4, natsB_spec h5⟩
  · obtain ⟨⟨⟨h3, h3'⟩, h4⟩, h5⟩ := h; exact ⟨by rw [h2, Nat.eq_of_beq_eq_true h3, Nat.eq_of_beq_eq_true h3'], sizedB_spec h4, natsB_spec h5⟩
  · exact ⟨⟨_, _, _, h2⟩, sizedB_spec h.1, natsB_spec h.2⟩
  · exact ⟨⟨_, h2⟩, sizedB_spec h.1, natsB_spec h.2⟩
  · obtain ⟨⟨⟨⟨⟨h3, h4⟩, h5⟩, h6⟩, h7⟩, h8⟩ := h
    refine ⟨⟨_, h2, fieldsB_spec h3, h4⟩, sizedB_spec h5, by simpa using h6, by simpa using h7, fun p hp => ?_⟩
    have := (List.all_eq_true.1 h8) p hp
    simp only [Bool.and_eq_true] at this
    exact ⟨sizedB_spec this.1, Nat.le_of_ble_eq_true this.2⟩
  · obtain ⟨⟨⟨h3, h4⟩, h5⟩, h6⟩ := h
    exact ⟨by rw [h2, Nat.eq_of_beq_eq_true h3, Nat.eq_of_beq_eq_true h4], sizedB_spec h5, sizedB_spec h6⟩

/-- A zero cell. -/
def zeq : V T → Value → Bool
  | .int k x, .int k' y => kindB k k' && decide (x = y)
  | .bool a, .bool b => decide (a = b)
  | .str [], .string s => s.data.toList.isEmpty
  | .sl _ [] .nil, .slice none 0 0 => true
  | .npt, .pointer none => true
  | .nmp, .map none => true
  | .nfn, .nilFunc => true
  | .nif, .nilIface => true
  | _, _ => false
theorem zeq_spec {v : V T} {x : Value} (h : zeq v x = true) : v.leaf = true ∧ x.oneCell' = true ∧ ∀ g, Rep E g v x := by
  unfold zeq at h
  split at h
  · simp only [Bool.and_eq_true, kindB, decide_eq_true_eq] at h
    obtain ⟨rfl, rfl⟩ := h
    exact ⟨rfl, rfl, fun g => .int g _ _⟩
  · simp only [decide_eq_true_eq] at h
    subst h
    exact ⟨rfl, rfl, fun g => .bool g _⟩
  · rename_i s
    obtain ⟨⟨l⟩⟩ := s
    have : l = [] := by simpa using h
    subst this
    exact ⟨rfl, rfl, fun g => .str g []⟩
  · exact ⟨rfl, rfl, fun g => .slnil _⟩
  · exact ⟨rfl, rfl, fun g => .npt⟩
  · exact ⟨rfl, rfl, fun g => .nmp⟩
  · exact ⟨rfl, rfl, fun g => .nfn⟩
  · exact ⟨rfl, rfl, fun g => .nif⟩
  · cases h
def zeqs : List (V T) → List Value → Bool
  | [], [] => true
  | v :: vs, x :: xs => zeq v x && zeqs vs xs
  | _, _ => false
theorem zeqs_spec {E : Env T} : ∀ {vs : List (V T)} {xs : List Value}, zeqs vs xs = true → leaves vs = true ∧ One xs ∧ ∀ g, Reps E g vs xs
  | [], [], _ => ⟨rfl, (fun _ h => by cases h), fun _ => .nil⟩
  | v :: vs, x :: xs, h => by
    simp only [zeqs, Bool.and_eq_true] at h
    obtain ⟨h1, h2, h3⟩ := zeq_spec (E := E) h.1
    obtain ⟨k1, k2, k3⟩ := zeqs_spec (E := E) h.2
    refine ⟨by simp [leaves, h1, k1], fun y hy => ?_, fun g => .cons (h3 g) (k3 g)⟩
    rcases List.mem_cons.1 hy with rfl | hy
    · exact h2
    · exact k2 y hy
  | [], _ :: _, h => by cases h
  | _ :: _, [], h => by cases h
def zeroB (P : Program) (E : Env T) (t : Nat) : Bool := match zeroC E t with
  | none => true
  | some cs => match P.info? t with
    | none => false
    | some i => match i.zero with
      | none => false
      | some z => match (E.ty t).agg, z with
        | true, .agg vs => zeqs cs vs.toList
        | true, _ => false
        | false, z => zeqs cs [z]
theorem zeroB_spec {t : Nat} (h : zeroB P E t = true) : ∀ cs, zeroC E t = some cs → ∃ i z vs, P.info? t = some i ∧ i.zero = some z ∧ CellsOf E t z vs ∧ One vs ∧ leaves cs = true ∧ ∀ g, Reps E g cs vs := fun cs hz => by
  unfold zeroB at h
  rw [hz] at h
  dsimp only at h
  split at h
  · cases h
  · rename_i i hi
    split at h
    · cases h
    · rename_i z hz'
      unfold CellsOf
      split at h
      · rename_i vs ha
        obtain ⟨h1, h2, h3⟩ := zeqs_spec (E := E) h
        exact ⟨i, _, vs.toList, hi, hz', by rw [ha], h2, h1, h3⟩
      · cases h
      · rename_i ha
        obtain ⟨h1, h2, h3⟩ := zeqs_spec (E := E) h
        exact ⟨i, _, _, hi, hz', by rw [ha], h2, h1, h3⟩
def elemB (P : Program) (E : Env T) (e : K) : Bool := match P.info? (E.num e) with
  | none => false
  | some i => match i.zero with
    | none => false
    | some z => Nat.beq i.size (E.size (E.num e)) && Nat.beq z.cells.size i.size && Nat.beq i.bytes (E.bytes e) && Nat.blt 0 i.bytes && Nat.blt 0 i.size
theorem elemB_spec {e : K} (h : elemB P E e = true) : ∃ i z, P.info? (E.num e) = some i ∧ i.zero = some z ∧ i.size = E.size (E.num e) ∧ z.cells.size = i.size ∧ i.bytes = E.bytes e ∧ 0 < i.bytes ∧ 0 < i.size := by
  unfold elemB at h
  split at h
  · cases h
  · rename_i i hi
    split at h
    · cases h
    · rename_i z hz
      simp only [Bool.and_eq_true] at h
      obtain ⟨⟨⟨⟨h1, h2⟩, h3⟩, h4⟩, h5⟩ := h
      exact ⟨i, z, hi, hz, Nat.eq_of_beq_eq_true h1, Nat.eq_of_beq_eq_true h2, Nat.eq_of_beq_eq_true h3, Nat.le_of_ble_eq_true h4, Nat.le_of_ble_eq_true h5⟩

/-- A cell of plain data loses its right. -/
def V.frz : V T → Option (V T)
  | .int k x => some (.int k x)
  | .bool b => some (.bool b)
  | .str s => some (.str s)
  | .sl e xs _ => some (.sl e xs .no)
  | _ => none
def frzs : List (V T) → Option (List (V T))
  | [] => some []
  | v :: vs => match v.frz, frzs vs with
    | some v, some vs => some (v :: vs)
    | _, _ => none
theorem frz_fc {g : Gh} {v u : V T} {x : Value} (h : v.frz = some u) (hr : Rep E g v x) : Fc E g.G u x := by
  unfold V.frz at h
  split at h <;> simp only [Option.some.injEq, reduceCtorEq] at h <;> subst h
  · rw [hr.int_inv]; exact .int _ _
  · rw [hr.bool_inv]; exact .bool _
  · rw [hr.str_inv]; exact .str _
  · obtain ⟨_, _, h, _⟩ := hr.sl_inv; exact h
theorem frzs_fcs {g : Gh} : ∀ {vs us : List (V T)} {xs : List Value}, frzs vs = some us → Reps E g vs xs → Fcs E g.G us xs
  | [], us, xs, h, hr => by
    cases hr
    simp only [frzs, Option.some.injEq] at h
    subst h
    exact .nil
  | v :: vs, us, xs, h, hr => by
    cases hr with
    | cons h1 h2 =>
      simp only [frzs] at h
      split at h
      · rename_i a b
        simp only [Option.some.injEq] at h
        subst h
        exact .cons (frz_fc a h1) (frzs_fcs b h2)
      · cases h

def belowB (f : Nat → Bool) : Nat → Bool
  | 0 => true
  | n + 1 => f n && belowB f n
theorem belowB_spec {f : Nat → Bool} : ∀ {n : Nat}, belowB f n = true → ∀ t, t < n → f t = true
  | 0, _, t, h => by omega
  | n + 1, hb, t, h => by
    simp only [belowB, Bool.and_eq_true] at hb
    by_cases e : t = n
    · subst e; exact hb.1
    · exact belowB_spec hb.2 t (by omega)
def mask : List Func → List Bool → List (Option Func)
  | f :: fs, b :: bs => (match b with
    | true => some f
    | false => none) :: mask fs bs
  | _, _ => []
theorem mask_get : ∀ {l : List Func} {bs : List Bool} {i : Nat} {fn : Func}, (mask l bs)[i]? = some (some fn) → l[i]? = some fn
  | [], bs, i, fn, h => by simp [mask] at h
  | f :: fs, [], i, fn, h => by simp [mask] at h
  | f :: fs, b :: bs, 0, fn, h => by
    cases b <;> simp [mask] at h
    simp [h]
  | f :: fs, b :: bs, i + 1, fn, h => by
    simp only [mask, List.getElem?_cons_succ] at h ⊢
    exact mask_get h
theorem fns_of {t : Nat → Option Func} {n : Nat} {bs : List Bool} (h0 : ∀ f, n ≤ f → t f = none) (h1 : (List.range n).map t = mask (P.funcs.toList.take n) bs) (h2 : (P.funcs.toList.take n).all (fun fn => !(fn.name == "runtime.NumGoroutine")) = true) :
    ∀ (f : Nat) (fn : Func), t f = some fn → P.funcs[f]? = some fn ∧ fn.name ≠ "runtime.NumGoroutine" := fun f fn h => by
  have hlt : f < n := Nat.lt_of_not_le fun hle => by rw [h0 f hle] at h; cases h
  have h3 : ((List.range n).map t)[f]? = some (some fn) := by simp [hlt, h]
  rw [h1] at h3
  have h4 := mask_get h3
  refine ⟨?_, ?_⟩
  · rw [List.getElem?_take, if_pos hlt] at h4
    simpa using h4
  · have := List.all_eq_true.1 h2 fn (List.mem_of_getElem? h4)
    simpa using this

theorem backOf_ok {l : List (Nat × K)} (h : l.all (fun p => isBack E p.1 p.2) = true) : ∀ f e, backOf l f = some e → isBack E f e = true := by
  induction l with
  | nil => intro f e he; simp [backOf] at he
  | cons p l ih =>
    intro f e he
    simp only [List.all_cons, Bool.and_eq_true] at h
    obtain ⟨g, e'⟩ := p
    simp only [backOf] at he
    split at he
    · rename_i hb
      have := Nat.eq_of_beq_eq_true hb
      subst this
      simp only [Option.some.injEq] at he
      subst he
      exact h.1
    · exact ih h.2 f e he
/-- The tables pass. -/
structure Passes (P : Program) (E : Env T) (N : Nat) : Prop where
  mixed : P.follows .mixedOrders = true
  ty : belowB (tyB P E) N = true
  tyo : ∀ t, N ≤ t → E.ty t = .other
  zero : belowB (zeroB P E) N = true
  cto : ∀ t, N ≤ t → E.cts t = [N]
  elem : ∀ e, elemB P E e = true
  len : ∀ e x, (E.enc e x).length = E.size (E.num e)
  dec : ∀ e cs x, E.dec e cs = some x → frzs cs = some (E.enc e x)
  key : ∀ e, keyedT E (E.num e) = true → ∀ a b, eqT E 100 (E.num e) (E.enc e a) (E.enc e b) = some (E.eqb e a b)
  fns : ∀ f fn, E.fns f = some fn → P.funcs[f]? = some fn ∧ fn.name ≠ "runtime.NumGoroutine"
  back : ∀ f e, E.back f = some e → isBack E f e = true
theorem Passes.ok {N : Nat} (h : Passes P E N) : EnvOk P E where
  mixed := h.mixed
  ty t := by
    by_cases ht : t < N
    · exact tyB_spec (belowB_spec h.ty t ht)
    · rw [h.tyo t (by omega)]; trivial
  zero t cs hz := by
    by_cases ht : t < N
    · exact zeroB_spec (belowB_spec h.zero t ht) cs hz
    · unfold zeroC at hz
      rw [h.cto t (by omega)] at hz
      simp [zerosL, zeroL, h.tyo N (Nat.le_refl _)] at hz
  elem e := elemB_spec (h.elem e)
  encLen := h.len
  dec g e cs x vs hd hr := frzs_fcs (h.dec e cs x hd) hr
  key := h.key
  fns := h.fns
  back := h.back
end Go.Proofs.YtnenfgpjedddoaaGreat.AI
