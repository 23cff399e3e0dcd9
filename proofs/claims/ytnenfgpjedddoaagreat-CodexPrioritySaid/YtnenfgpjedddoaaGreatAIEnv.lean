/- What is asked of the tables, and the first small laws: operands, cells, loads and stores. -/
import Derived.Test.YtnenfgpjedddoaaGreatAIRel
import Derived.ArgAppend
import Derived.ChangeKeysEq
set_option linter.unusedVariables false
set_option linter.unusedSectionVars false
namespace Go.Proofs.YtnenfgpjedddoaaGreat.AI
open Go

variable {K : Type} [DecidableEq K] {T : K → Type}

/-- The type has as many cells as the table says. -/
def Sized (P : Program) (E : Env T) (t : Nat) : Prop := ∃ i, P.info? t = some i ∧ i.size = E.size t
def TyOk (P : Program) (E : Env T) (t : Nat) : Ty K → Prop
  | .int k => P.underlying t = some (.int k) ∧ Sized P E t ∧ E.cts t = [t]
  | .bool => P.underlying t = some .bool ∧ Sized P E t ∧ E.cts t = [t]
  | .str => P.underlying t = some .string ∧ Sized P E t ∧ E.cts t = [t]
  | .slice e => P.underlying t = some (.slice (E.num e)) ∧ Sized P E t ∧ E.cts t = [t]
  | .ptr e => P.underlying t = some (.pointer e) ∧ Sized P E t ∧ E.cts t = [t]
  | .map k e => P.underlying t = some (.map (E.num k) (E.num e)) ∧ Sized P E t ∧ E.cts t = [t]
  | .func => (∃ ps rs v, P.underlying t = some (.func ps rs v)) ∧ Sized P E t ∧ E.cts t = [t]
  | .iface => (∃ ms, P.underlying t = some (.interface ms)) ∧ Sized P E t ∧ E.cts t = [t]
  | .struct fs => (∃ fields, P.underlying t = some (.struct fields) ∧ fs = fields.toList.map (fun f => (f.type, f.offset)) ∧ fields.all (fun f => f.name != "_") = true) ∧ Sized P E t ∧
      P.stoodInHeld t = false ∧ P.eqGuardType P.depth t = false ∧ ∀ p ∈ fs, Sized P E p.1 ∧ 0 < E.size p.1
  | .array n e => P.underlying t = some (.array n e) ∧ Sized P E t ∧ Sized P E e
  | .other => True

structure EnvOk (P : Program) (E : Env T) : Prop where
  mixed : P.follows .mixedOrders = true
  ty : ∀ t, TyOk P E t (E.ty t)
  zero : ∀ t cs, zeroC E t = some cs → ∃ i z vs, P.info? t = some i ∧ i.zero = some z ∧ CellsOf E t z vs ∧ One vs ∧ leaves cs = true ∧ ∀ g, Reps E g cs vs
  elem : ∀ e, ∃ i z, P.info? (E.num e) = some i ∧ i.zero = some z ∧ i.size = E.size (E.num e) ∧ z.cells.size = i.size ∧ i.bytes = E.bytes e ∧ 0 < i.bytes ∧ 0 < i.size
  encLen : ∀ e x, (E.enc e x).length = E.size (E.num e)
  dec : ∀ g e cs x vs, E.dec e cs = some x → Reps E g cs vs → Fcs E g.G (E.enc e x) vs
  key : ∀ e, keyedT E (E.num e) = true → ∀ a b, eqT E 100 (E.num e) (E.enc e a) (E.enc e b) = some (E.eqb e a b)
  fns : ∀ f fn, E.fns f = some fn → P.funcs[f]? = some fn ∧ fn.name ≠ "runtime.NumGoroutine"
  back : ∀ f e, E.back f = some e → isBack E f e = true

/-! ### Cells fill one cell each -/
theorem Fc.one {E : Env T} {G} {v : V T} {x : Value} (h : Fc E G v x) : x.oneCell' = true := by cases h <;> rfl
theorem Fcs.one {E : Env T} {G} : ∀ {vs : List (V T)} {xs : List Value}, Fcs E G vs xs → One xs
  | _, _, .nil => fun _ h => by cases h
  | _, _, .cons a b => fun x h => by
    cases h with
    | head => exact a.one
    | tail _ h => exact Fcs.one b x h
theorem Rep.one {E : Env T} {g : Gh} {v : V T} {x : Value} (h : Rep E g v x) (hl : v.leaf = true) : x.oneCell' = true := by
  cases h <;> first | rfl | (cases hl; done) | (rename_i h; exact h.one)
theorem Reps.one {E : Env T} {g : Gh} : ∀ {vs : List (V T)} {xs : List Value}, Reps E g vs xs → leaves vs = true → One xs
  | _, _, .nil, _ => fun _ h => by cases h
  | _, _, .cons a b, hl => fun x h => by
    simp only [leaves, Bool.and_eq_true] at hl
    cases h with
    | head => exact a.one hl.1
    | tail _ h => exact Reps.one b hl.2 x h
theorem One.take {xs : List Value} (h : One xs) (n : Nat) : One (xs.take n) := fun x hx => h x (List.mem_of_mem_take hx)
theorem One.drop {xs : List Value} (h : One xs) (n : Nat) : One (xs.drop n) := fun x hx => h x (List.mem_of_mem_drop hx)
theorem One.append {xs ys : List Value} (h : One xs) (k : One ys) : One (xs ++ ys) := fun x hx => (List.mem_append.1 hx).elim (h x) (k x)

/-- The cells of a value. -/
theorem Rep.cells {E : Env T} {g : Gh} {v : V T} {x : Value} (h : Rep E g v x) : Reps E g v.cells x.cells.toList := by
  have plain : ∀ {v : V T} {x : Value}, Rep E g v x → v.cells = [v] → x.cells = #[x] → Reps E g v.cells x.cells.toList := fun h a b => by
    rw [a, b]; exact .cons h .nil
  cases h with
  | agg h h1 => exact h
  | fc h => exact plain (.fc h) (by cases h <;> rfl) (by cases h <;> rfl)
  | slnil e => exact plain (.slnil e) rfl rfl
  | slfull h => exact plain (.slfull h) rfl rfl
  | sltok h a b c => exact plain (.sltok h a b c) rfl rfl
  | nsl => exact plain .nsl rfl rfl
  | ptr h => exact plain (.ptr h) rfl rfl
  | npt => exact plain .npt rfl rfl
  | adr a b => exact plain (.adr a b) rfl rfl
  | asl h => exact plain (.asl h) rfl rfl
  | elt h hj => exact plain (.elt h hj) rfl rfl
  | map h => exact plain (.map h) rfl rfl
  | nmp => exact plain .nmp rfl rfl
  | fn a b => exact plain (.fn a b) rfl rfl
  | nfn => exact plain .nfn rfl rfl
  | ifc h => exact plain (.ifc h) rfl rfl
  | nif => exact plain .nif rfl rfl
  | tup h => exact plain (.tup h) rfl rfl
  | stamp a b c => exact plain (.stamp a b c) rfl rfl
  | itr h => exact plain (.itr h) rfl rfl
  | und => exact plain .und rfl rfl

/-! ### Operands -/
theorem Rep.const {E : Env T} {g : Gh} {x : Value} {v : V T} (h : constV x = some v) : Rep E g v x := by
  unfold constV at h
  split at h <;> simp only [Option.some.injEq, reduceCtorEq] at h <;> subst h
  · exact .fc (.int _ _)
  · exact .fc (.bool _)
  · exact .fc (.str _)
  · exact .nsl
  · exact .npt
  · exact .nmp
  · exact .nfn
  · exact .nif
  · exact .tup .nil
theorem evalO_ok {E : Env T} {g : Gh} {fr : Fr T} {a : Act} (hf : FrOk E g fr a.tmps) {x : Operand} {v : V T} (h : evalO fr x = some v) : Rep E g v (a.eval x) := by
  cases x with
  | tmp t =>
    obtain ⟨y, h1, h2⟩ := hf t v h
    simpa [Act.eval, Array.getD_eq_getD_getElem?, h1] using h2
  | const c => exact Rep.const h
  | global gl => simp [evalO] at h
  | func f =>
    simp only [evalO, Option.some.injEq] at h
    subst h
    exact .fn .nil .nil
theorem Rep.coerce {E : Env T} {g : Gh} {v : V T} {x : Value} (t : Nat) (h : Rep E g v x) : Rep E g (coerce E t v) x := by
  unfold AI.coerce
  split
  · split
    · cases h with
      | fc h => cases h
      | nsl => exact .slnil _
    · exact h
  · exact h

/-! ### Loads -/
section
variable {P : Program} {E : Env T}
def dAgg : TypeDesc → Bool
  | .struct _ | .array _ _ => true
  | _ => false
theorem run_isAgg {t : Nat} {w : World} {d : TypeDesc} (h : P.underlying t = some d) : (isAgg t).run P w = .ok (dAgg d) w := by
  unfold isAgg
  simp only [Sem.run_bind, run_underlying h, Result.andThen_ok]
  cases d <;> rfl
theorem run_sizeOf' {t : Nat} {w : World} {i : TypeInfo} (h : P.info? t = some i) : (sizeOf t).run P w = .ok i.size w := by
  simp [sizeOf, typeInfo, h]
theorem Addr.add_mk (b off n : Nat) : (⟨b, off, none⟩ : Addr).add n = ⟨b, off + n, none⟩ := by
  unfold Addr.add
  split
  · rename_i h; subst h; rfl
  · rfl
/-- The cells that lie at an address: at least as many as the type has. -/
def At (w : World) (b off : Nat) (vs : List Value) : Prop := ∀ (k : Nat) v, vs[k]? = some v → w.cell? ⟨b, off + k, none⟩ = some v
theorem At.take {w : World} {b off : Nat} {vs : List Value} (h : At w b off vs) (n : Nat) : At w b off (vs.take n) := fun k v hv => by
  rw [List.getElem?_take] at hv
  split at hv
  · exact h k v hv
  · cases hv
theorem At.drop {w : World} {b off : Nat} {vs : List Value} (h : At w b off vs) (n : Nat) : At w b (off + n) (vs.drop n) := fun k v hv => by
  rw [List.getElem?_drop] at hv
  have := h _ v hv
  rwa [← Nat.add_assoc] at this
theorem run_loadAgg {w : World} {b off n : Nat} {vs : List Value} (h : At w b off vs) (hn : n ≤ vs.length) : (loadCells ⟨b, off, none⟩ n).run P w = .ok ⟨vs.take n⟩ w := by
  have := run_loadCells_list (P := P) w ⟨b, off, none⟩ (vs.take n) (fun j v hv => by rw [Addr.add_mk]; exact h.take n j v hv)
  rw [List.length_take, Nat.min_eq_left hn] at this
  simpa using this
/-- Reading a value of type t where these cells lie. -/
theorem loadVar_ok (hE : EnvOk P E) {w : World} {g : Gh} {t b off : Nat} {cs : List (V T)} {vs : List Value} {v : V T} (hc : cut E t cs = some v) (hr : Reps E g cs vs) (h1 : One vs)
    (hat : At w b off vs) : ∃ x, (loadVar t ⟨b, off, none⟩).run P w = .ok x w ∧ Rep E g v x := by
  have hty := hE.ty t
  unfold cut at hc
  have agg : ∀ d, P.underlying t = some d → dAgg d = true → Sized P E t → cutN (E.size t) cs = some v →
      ∃ x, (loadVar t ⟨b, off, none⟩).run P w = .ok x w ∧ Rep E g v x := fun d hu ha ⟨i, hi, hs⟩ hc => by
    unfold cutN at hc
    split at hc
    · rename_i hb
      simp only [Option.some.injEq] at hc
      subst hc
      have hb' : E.size t ≤ cs.length := Nat.le_of_ble_eq_true (Bool.and_eq_true_iff.1 hb).1
      have hl := hr.length
      refine ⟨.agg ⟨vs.take (E.size t)⟩, ?_, .agg (hr.take _) (h1.take _)⟩
      unfold loadVar
      simp only [Sem.run_bind, run_isAgg hu, ha, Result.andThen_ok, run_sizeOf' hi, hs, if_true]
      rw [run_loadAgg hat (by omega)]
      rfl
    · cases hc
  have one : ∀ d, P.underlying t = some d → dAgg d = false → cs.head? = some v →
      ∃ x, (loadVar t ⟨b, off, none⟩).run P w = .ok x w ∧ Rep E g v x := fun d hu ha hc => by
    cases hr with
    | nil => simp at hc
    | @cons v' x' vs' xs' hv hs =>
      simp only [List.head?_cons, Option.some.injEq] at hc
      subst hc
      refine ⟨x', ?_, hv⟩
      have h0 := hat 0 x' (by simp)
      simp only [Nat.add_zero] at h0
      unfold loadVar
      simp only [Sem.run_bind, run_isAgg hu, ha, Result.andThen_ok, Bool.false_eq_true, if_false, run_load, h0]
  cases ht : E.ty t <;> simp only [ht] at hc hty
  case int => exact one _ hty.1 rfl hc
  case bool => exact one _ hty.1 rfl hc
  case str => exact one _ hty.1 rfl hc
  case slice => exact one _ hty.1 rfl hc
  case ptr => exact one _ hty.1 rfl hc
  case map => exact one _ hty.1 rfl hc
  case func => obtain ⟨⟨_, _, _, hu⟩, _⟩ := hty; exact one _ hu rfl hc
  case iface => obtain ⟨⟨_, hu⟩, _⟩ := hty; exact one _ hu rfl hc
  case struct => obtain ⟨⟨_, hu, _⟩, hs, _⟩ := hty; exact agg _ hu rfl hs hc
  case array => exact agg _ hty.1 rfl hty.2.1 hc
  case other => cases hc
end
end Go.Proofs.YtnenfgpjedddoaaGreat.AI
