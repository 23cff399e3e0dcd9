/- Each operation does what the abstract interpreter says: '==' of structs, arithmetic, comparisons. -/
import Derived.Test.YtnenfgpjedddoaaGreatAIOps2
import Derived.Laws.StructEq
set_option linter.unusedVariables false
set_option linter.unusedSectionVars false
set_option linter.unusedSimpArgs false
namespace Go.Proofs.YtnenfgpjedddoaaGreat.AI
open Go

variable {K : Type} [DecidableEq K] {T : K → Type} {E : Env T} {P : Program}
section
variable {g : Gh} {st : List (Ob T)} {w : World} {fr : Fr T} {a : Act} (o : Oper)

/-- One field's part of a row of cells. -/
theorem part_ok (hE : EnvOk P E) {u o : Nat} {vs : List Value} (hk : (E.ty u).known = true) (hn : o + E.size u ≤ vs.length) :
    ∃ p, (part u ⟨vs⟩ o).run P w = .ok p w ∧ CellsOf E u p ((vs.drop o).take (E.size u)) := by
  have hty := hE.ty u
  have agg : ∀ d, P.underlying u = some d → dAgg d = true → Sized P E u → (E.ty u).agg = true → ∃ p, (part u ⟨vs⟩ o).run P w = .ok p w ∧ CellsOf E u p ((vs.drop o).take (E.size u)) := fun d hu ha ⟨i, hi, hs⟩ hagg => by
    refine ⟨.agg ⟨(vs.drop o).take (E.size u)⟩, ?_, by simp [CellsOf, hagg]⟩
    unfold part
    simp only [Sem.run_bind, run_isAgg hu, ha, Result.andThen_ok, if_true, run_sizeOf' hi, hs]
    have : (⟨vs⟩ : Array Value).extract o (o + E.size u) = ⟨(vs.drop o).take (E.size u)⟩ := by
      apply Array.ext'
      simp [List.take_drop]
    rw [this]
    rfl
  have one : ∀ d, P.underlying u = some d → dAgg d = false → E.cts u = [u] → (E.ty u).agg = false → ∃ p, (part u ⟨vs⟩ o).run P w = .ok p w ∧ CellsOf E u p ((vs.drop o).take (E.size u)) := fun d hu ha hc hagg => by
    have h1 : E.size u = 1 := by simp [Env.size, hc]
    have ho : o < vs.length := by omega
    refine ⟨vs[o], ?_, ?_⟩
    · unfold part
      simp only [Sem.run_bind, run_isAgg hu, ha, Result.andThen_ok, Bool.false_eq_true, if_false]
      have : (⟨vs⟩ : Array Value)[o]? = some vs[o] := by simp [ho]
      rw [this]
      rfl
    · simp only [CellsOf, hagg, h1]
      rw [List.take_one, List.head?_drop]
      simp [ho]
  cases ht : E.ty u <;> simp only [ht] at hty hk
  case int => exact one _ hty.1 rfl hty.2.2 (by rw [ht]; rfl)
  case bool => exact one _ hty.1 rfl hty.2.2 (by rw [ht]; rfl)
  case str => exact one _ hty.1 rfl hty.2.2 (by rw [ht]; rfl)
  case slice => exact one _ hty.1 rfl hty.2.2 (by rw [ht]; rfl)
  case ptr => exact one _ hty.1 rfl hty.2.2 (by rw [ht]; rfl)
  case map => exact one _ hty.1 rfl hty.2.2 (by rw [ht]; rfl)
  case func => obtain ⟨⟨_, _, _, hu⟩, h2⟩ := hty; exact one _ hu rfl h2.2 (by rw [ht]; rfl)
  case iface => obtain ⟨⟨_, hu⟩, h2⟩ := hty; exact one _ hu rfl h2.2 (by rw [ht]; rfl)
  case struct => obtain ⟨⟨_, hu, _⟩, hs, _⟩ := hty; exact agg _ hu rfl hs (by rw [ht]; rfl)
  case array => exact agg _ hty.1 rfl hty.2.1 (by rw [ht]; rfl)
  case other => cases hk

theorem eqT_known {d t : Nat} {xs ys : List (V T)} {b : Bool} (h : eqT E d t xs ys = some b) : (E.ty t).known = true := by
  cases d with
  | zero => simp [eqT] at h
  | succ d =>
    unfold eqT at h
    cases ht : E.ty t <;> rw [ht] at h <;> first | rfl | (cases h; done)
theorem fieldsOf_eq {t : Nat} {fields : Array Field} (h : P.underlying t = some (.struct fields)) : P.fieldsOf t = fields := by
  simp [Program.fieldsOf, h]

theorem eq_ok (hE : EnvOk P E) : ∀ (d : Nat),
    (∀ (t : Nat) (xs ys : List (V T)) (b : Bool) (vs us : List Value) (p q : Value) (D : Nat), eqT E d t xs ys = some b → Reps E g xs vs → Reps E g ys us → CellsOf E t p vs → CellsOf E t q us → d ≤ D →
      (Op.equalIn D t p q).run P w = .ok b w) ∧
    (∀ (fs : List Field) (xs ys : List (V T)) (b : Bool) (vs us : List Value) (D : Nat), eqF E d (fs.map fun f => (f.type, f.offset)) xs ys = some b → Reps E g xs vs → Reps E g ys us → d ≤ D →
      (∀ f ∈ fs, f.name ≠ "_") → (Op.eqFields D ⟨vs⟩ ⟨us⟩ fs).run P w = .ok b w) := by
  intro d
  induction d with
  | zero =>
    refine ⟨fun t xs ys b vs us p q D h => by simp [eqT] at h, fun fs xs ys b vs us D h hx hy hD hn => ?_⟩
    cases fs with
    | nil => simp only [List.map_nil, eqF, Option.some.injEq] at h; subst h; rfl
    | cons f fs => simp [eqF] at h
  | succ d ih =>
    obtain ⟨ih1, ih2⟩ := ih
    constructor
    · intro t xs ys b vs us p q D h hx hy hp hq hD
      obtain ⟨D, rfl⟩ : ∃ D', D = D' + 1 := ⟨D - 1, by omega⟩
      have hty := hE.ty t
      unfold eqT at h
      have leaf : ∀ (k : Ty K), E.ty t = k → k.agg = false → (match (generalizing := false) xs, ys with | [x], [y] => eqLeaf k x y | _, _ => none) = some b → (Op.equalIn (D + 1) t p q).run P w = .ok b w := fun k hk hag h => by
        simp only [CellsOf, hk, hag] at hp hq
        subst hp; subst hq
        cases hx with
        | cons hx1 hx2 =>
          cases hx2
          cases hy with
          | cons hy1 hy2 =>
            cases hy2
            dsimp only at h
            rw [← hk] at h
            exact (eqLeaf_ok D hty hx1 hy1 h).1
      cases ht : E.ty t <;> rw [ht] at h <;> dsimp only at h
      case int k => exact leaf _ ht rfl h
      case bool => exact leaf _ ht rfl h
      case str => exact leaf _ ht rfl h
      case struct fs =>
        rw [ht] at hty
        obtain ⟨⟨fields, hu, hfs, hnm⟩, hsz, hst, hg, _⟩ := hty
        simp only [CellsOf, ht, Ty.agg] at hp hq
        subst hp; subst hq
        rw [run_equalIn_struct w D t _ _ (by rw [fieldsOf_eq hu]; exact hu) hst, fieldsOf_eq hu]
        rw [hfs] at h
        refine ih2 fields.toList xs ys b vs us D h hx hy (by omega) fun f hf => ?_
        have := Array.all_eq_true_iff_forall_mem.1 hnm f (by simpa using hf)
        simpa using this
      all_goals cases h
    · intro fs xs ys b vs us D h hx hy hD hn
      cases fs with
      | nil => simp only [List.map_nil, eqF, Option.some.injEq] at h; subst h; rfl
      | cons f fs =>
        simp only [List.map_cons, eqF] at h
        split at h
        case h_2 => cases h
        rename_i hlen
        simp only [Bool.and_eq_true] at hlen
        have hl1 := Nat.le_of_ble_eq_true hlen.1
        have hl2 := Nat.le_of_ble_eq_true hlen.2
        have hl3 := hx.length
        have hl4 := hy.length
        split at h
        · rename_i a1 b1 ha hb
          simp only [Option.some.injEq] at h
          subst h
          have hk := eqT_known ha
          have hlx : f.offset + E.size f.type ≤ vs.length := by omega
          have hly : f.offset + E.size f.type ≤ us.length := by omega
          obtain ⟨p1, hp1, hp2⟩ := part_ok (P := P) (w := w) hE (vs := vs) (o := f.offset) hk hlx
          obtain ⟨q1, hq1, hq2⟩ := part_ok (P := P) (w := w) hE (vs := us) (o := f.offset) hk hly
          have he := ih1 f.type _ _ a1 _ _ p1 q1 D ha ((hx.drop f.offset).take (E.size f.type)) ((hy.drop f.offset).take (E.size f.type)) hp2 hq2 (by omega)
          have hr := ih2 fs xs ys b1 vs us D hb hx hy (by omega) (fun f' hf' => hn f' (List.mem_cons_of_mem _ hf'))
          have hnm : f.name ≠ "_" := hn f (List.mem_cons_self ..)
          simp only [Op.eqFields, ne_eq, hnm, not_false_eq_true, if_true, Sem.run_bind, hp1, hq1, he, Result.andThen_ok, Sem.run_ite, hr]
          cases a1 <;> simp
        · cases h

theorem ints_some {k k' : IntKind} {x y : Ask T} (h : ints k k' x = some y) : k = k' ∧ x = y := by
  unfold ints at h
  split at h
  · rename_i hk
    simp only [Option.some.injEq] at h
    exact ⟨eq_of_beq hk, h⟩
  · cases h

theorem eqW_ok (hE : EnvOk P E) {t : Nat} {x y : V T} {p q : Value} {b : Bool} (hx : Rep E g x p) (hy : Rep E g y q) (h : eqW E t x y = some b) :
    (Op.equalIn 10000 t p q).run P w = .ok b w ∧ ¬ (p = .nilIface ∧ q = .nilIface) ∧ (∀ ps qs, p = .agg ps → q = .agg qs → P.eqGuardType P.depth t = false) := by
  unfold eqW at h
  split at h
  · rename_i xs ys
    split at h
    · rename_i hag
      obtain ⟨vs, h1, _, rfl⟩ := hx.agg_inv
      obtain ⟨us, h2, _, rfl⟩ := hy.agg_inv
      refine ⟨(eq_ok hE 100).1 t xs ys b vs us _ _ 10000 h h1 h2 (by simp [CellsOf, hag]) (by simp [CellsOf, hag]) (by omega), by simp, fun _ _ _ _ => ?_⟩
      have hty := hE.ty t
      unfold eqT at h
      cases ht : E.ty t <;> rw [ht] at h hag hty <;> first | (cases hag; done) | skip
      · exact hty.2.2.2.1
      · cases h
    · cases h
  · obtain ⟨h1, h2, h3⟩ := eqLeaf_ok (P := P) (w := w) 9999 (hE.ty t) hx hy h
    exact ⟨h1, h2, fun ps _ hp _ => absurd hp (h3 ps)⟩

/-- '==' and '!=' by the machine's dispatch. -/
def other : Value → Bool
  | .int .. | .float .. | .complex .. | .string .. => false
  | _ => true
theorem binOp_eql {t : Nat} {p q : Value} {b : Bool} (h : (Op.equalIn 10000 t p q).run P w = .ok b w) (hp : other p = true) : (binOp .eql t p q).run P w = .ok (.bool b) w := by
  have : binOp .eql t p q = (do pure (.bool (← Op.equal t p q))) := by cases p <;> first | (cases hp; done) | (cases q <;> rfl)
  rw [this]
  simp [Op.equal, Op.maxDepth, h]
theorem binOp_neq {t : Nat} {p q : Value} {b : Bool} (h : (Op.equalIn 10000 t p q).run P w = .ok b w) (hp : other p = true) : (binOp .neq t p q).run P w = .ok (.bool !b) w := by
  have : binOp .neq t p q = (do pure (.bool (!(← Op.equal t p q)))) := by cases p <;> first | (cases hp; done) | (cases q <;> rfl)
  rw [this]
  simp [Op.equal, Op.maxDepth, h]
/-- What '==' is asked of, told by the table. -/
theorem eqW_forms {t : Nat} {x y : V T} {p q : Value} {b : Bool} (hx : Rep E g x p) (hy : Rep E g y q) (h : eqW E t x y = some b) :
    (∃ k m n, p = .int k m ∧ q = .int k n ∧ b = (m == n)) ∨ (∃ s r, p = .string ⟨⟨s⟩⟩ ∧ q = .string ⟨⟨r⟩⟩ ∧ b = (s == r)) ∨ other p = true := by
  unfold eqW at h
  split at h
  · obtain ⟨vs, _, _, rfl⟩ := hx.agg_inv
    exact .inr (.inr rfl)
  · unfold eqLeaf at h
    split at h <;> (try split at h) <;> (try (split at h)) <;> (try (cases h; done)) <;> first
      | (refine .inr (.inr ?_)
         first
         | (rw [hx.bool_inv]; rfl) | (rw [hx.nil_slice.1]; rfl) | (rw [hx.nsl_inv]; rfl) | (rw [hx.npt_inv]; rfl) | (rw [hx.nmp_inv]; rfl) | (rw [hx.nfn_inv]; rfl) | (rw [hx.nif_inv]; rfl)
         | (obtain ⟨_, _, rfl⟩ := hx.ptr_inv; rfl) | (obtain ⟨_, _, _, _, _, rfl⟩ := hx.adr_inv; rfl) | (obtain ⟨_, _, _, rfl⟩ := hx.map_inv; rfl) | (obtain ⟨_, _, _, _, rfl⟩ := hx.fn_inv; rfl) | (obtain ⟨_, _, rfl⟩ := hx.ifc_inv; rfl))
      | (rename_i hk
         have hk' := eq_of_beq hk
         subst hk'
         simp only [Option.some.injEq] at h
         exact .inl ⟨_, _, _, hx.int_inv, hy.int_inv, h.symm⟩)
      | (simp only [Option.some.injEq] at h
         exact .inr (.inl ⟨_, _, hx.str_inv, hy.str_inv, h.symm⟩))
theorem eqW_run (hE : EnvOk P E) {t : Nat} {x y : V T} {p q : Value} {b : Bool} (hx : Rep E g x p) (hy : Rep E g y q) (h : eqW E t x y = some b) :
    (binOp .eql t p q).run P w = .ok (.bool b) w ∧ (binOp .neq t p q).run P w = .ok (.bool !b) w ∧ ¬ (p = .nilIface ∧ q = .nilIface) ∧ (∀ ps qs, p = .agg ps → q = .agg qs → P.eqGuardType P.depth t = false) := by
  obtain ⟨h1, h2, h3⟩ := eqW_ok (w := w) hE hx hy h
  rcases eqW_forms hx hy h with ⟨k, m, n, rfl, rfl, rfl⟩ | ⟨s, r, rfl, rfl, rfl⟩ | ho
  · exact ⟨by simp [binOp, Op.intCmp], by simp [binOp, Op.intCmp, bne], h2, h3⟩
  · exact ⟨by simp [binOp, Op.stringOp, byteArray_toList], by simp [binOp, Op.stringOp, byteArray_toList], h2, h3⟩
  · exact ⟨binOp_eql h1 ho, binOp_neq h1 ho, h2, h3⟩
end
end Go.Proofs.YtnenfgpjedddoaaGreat.AI
