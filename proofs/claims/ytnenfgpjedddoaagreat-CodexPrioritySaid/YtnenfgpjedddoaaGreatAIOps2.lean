/- Each operation does what the abstract interpreter says: operators and comparisons. -/
import Derived.Test.YtnenfgpjedddoaaGreatAIOps1
import Derived.Laws.Strings
set_option linter.unusedVariables false
set_option linter.unusedSectionVars false
set_option linter.unusedSimpArgs false
namespace Go.Proofs.YtnenfgpjedddoaaGreat.AI
open Go

variable {K : Type} [DecidableEq K] {T : K → Type} {E : Env T} {P : Program}
section
variable {g : Gh} {st : List (Ob T)} {w : World} {fr : Fr T} {a : Act} (o : Oper)

theorem byteArray_toList (a : List UInt8) : (⟨⟨a⟩⟩ : ByteArray).toList = a := ByteArray.toList_eq _
theorem byteArray_beq (a b : List UInt8) : ((⟨⟨a⟩⟩ : ByteArray) == ⟨⟨b⟩⟩) = (a == b) := by
  show ((⟨a⟩ : Array UInt8) == ⟨b⟩) = (a == b)
  rw [Bool.eq_iff_iff, beq_iff_eq, beq_iff_eq]
  exact ⟨fun h => by simpa using h, fun h => by rw [h]⟩

def isEq : BinOp → Bool
  | .eql | .neq => true
  | _ => false
/-- The guard of '==' lets by what is no pair of nil interface values. -/
theorem eqGuard_ok {op : BinOp} {t : Nat} {x y : Operand} {p q : Value} (h : isEq op = true → (∀ ps qs, p = .agg ps → q = .agg qs → P.eqGuardType P.depth t = false) ∧ ¬ (p = .nilIface ∧ q = .nilIface)) :
    (eqGuard op t x y p q).run P w = .ok () w := by
  unfold eqGuard
  cases op <;> simp only [isEq, forall_const, Bool.false_eq_true, false_implies] at h <;> first
    | rfl
    | (obtain ⟨h1, h2⟩ := h
       cases p <;> cases q <;> first
        | rfl
        | exact absurd ⟨rfl, rfl⟩ h2
        | (simp [h1 _ _ rfl rfl]; done))
theorem binOp_run {op : BinOp} {t u : Nat} {x y : Operand} (hop : o.op = .binOp op t x y u)
    (h : isEq op = true → (∀ ps qs, a.eval x = .agg ps → a.eval y = .agg qs → P.eqGuardType P.depth t = false) ∧ ¬ (a.eval x = .nilIface ∧ a.eval y = .nilIface)) {v : Value}
    (hb : (binOp op t (a.eval x) (a.eval y)).run P w = .ok v w) : (execOp a.eval o).run P w = .ok (.value v) w := by
  have hg := eqGuard_ok (P := P) (w := w) (x := x) (y := y) h
  simp [execOp, hop, hg, hb]

theorem Rep.nil_slice {e : K} {xs : List (T e)} {p : Value} (h : Rep E g (.sl e xs .nil) p) : p = .slice none 0 0 ∧ xs = [] := by
  cases h with
  | fc h => cases h
  | slnil => exact ⟨rfl, rfl⟩
theorem Rep.nsl_inv {p : Value} (h : Rep E g .nsl p) : p = .slice none 0 0 := by
  cases h with
  | fc h => cases h
  | nsl => rfl
theorem Rep.npt_inv {p : Value} (h : Rep E g .npt p) : p = .pointer none := by
  cases h with
  | fc h => cases h
  | npt => rfl
theorem Rep.nmp_inv {p : Value} (h : Rep E g .nmp p) : p = .map none := by
  cases h with
  | fc h => cases h
  | nmp => rfl
theorem Rep.nfn_inv {p : Value} (h : Rep E g .nfn p) : p = .nilFunc := by
  cases h with
  | fc h => cases h
  | nfn => rfl
theorem Rep.nif_inv {p : Value} (h : Rep E g .nif p) : p = .nilIface := by
  cases h with
  | fc h => cases h
  | nif => rfl
theorem Rep.ptr_inv {i off : Nat} {p : Value} (h : Rep E g (.ptr i off) p) : ∃ b, g.M[i]? = some (.box b) ∧ p = .pointer (some ⟨b, off, none⟩) := by
  cases h with
  | fc h => cases h
  | ptr h => exact ⟨_, h, rfl⟩
theorem Rep.adr_inv {cs : List (V T)} {p : Value} (h : Rep E g (.adr cs) p) : ∃ b off vs, Fcs E g.G cs vs ∧ Fz g.G b off vs ∧ p = .pointer (some ⟨b, off, none⟩) := by
  cases h with
  | fc h => cases h
  | adr a b => exact ⟨_, _, _, a, b, rfl⟩
theorem Rep.elt_inv {i j off : Nat} {p : Value} (h : Rep E g (.elt i j off) p) : ∃ b n sz, g.M[i]? = some (.arr b n sz) ∧ j < n ∧ p = .pointer (some ⟨b, j * sz + off, none⟩) := by
  cases h with
  | fc h => cases h
  | elt h hj => exact ⟨_, _, _, h, hj, rfl⟩
theorem Rep.map_inv {i : Nat} {p : Value} (h : Rep E g (.map i) p) : ∃ r bs, g.M[i]? = some (.map r bs) ∧ p = .map (some r) := by
  cases h with
  | fc h => cases h
  | map h => exact ⟨_, _, h, rfl⟩
theorem Rep.asl_inv {i : Nat} {p : Value} (h : Rep E g (.asl i) p) : ∃ b n sz, g.M[i]? = some (.arr b n sz) ∧ p = .slice (some ⟨b, 0, none⟩) n n := by
  cases h with
  | fc h => cases h
  | asl h => exact ⟨_, _, _, h, rfl⟩
theorem Rep.fn_inv {f : Nat} {as cs : List (V T)} {p : Value} (h : Rep E g (.fn f as cs) p) : ∃ xs ys, Reps E g as xs ∧ Reps E g cs ys ∧ p = .func (.func f) ⟨xs⟩ ⟨ys⟩ := by
  cases h with
  | fc h => cases h
  | fn a b => exact ⟨_, _, a, b, rfl⟩
theorem Rep.ifc_inv {t : Nat} {v : V T} {p : Value} (h : Rep E g (.ifc t v) p) : ∃ x, Rep E g v x ∧ p = .iface t x := by
  cases h with
  | fc h => cases h
  | ifc h => exact ⟨_, h, rfl⟩
theorem Rep.agg_inv {cs : List (V T)} {p : Value} (h : Rep E g (.agg cs) p) : ∃ vs, Reps E g cs vs ∧ One vs ∧ p = .agg ⟨vs⟩ := by
  cases h with
  | fc h => cases h
  | agg h h1 => exact ⟨_, h, h1, rfl⟩
theorem Rep.tup_inv {cs : List (V T)} {p : Value} (h : Rep E g (.tup cs) p) : ∃ vs, Reps E g cs vs ∧ p = .tuple ⟨vs⟩ := by
  cases h with
  | fc h => cases h
  | tup h => exact ⟨_, h, rfl⟩
/-- A list, whoever has the right to what lies behind it. -/
theorem Rep.sl_inv {e : K} {xs : List (T e)} {ow : Own} {p : Value} (h : Rep E g (.sl e xs ow) p) : ∃ ad cap, Fc E g.G (.sl e xs .no) p ∧ p = .slice ad xs.length cap := by
  cases h with
  | fc h => cases h with
    | sl0 => exact ⟨_, _, .sl0 _, rfl⟩
    | sle => exact ⟨_, _, .sle _ _ _, rfl⟩
    | sl _ _ b off cap css hc h hz => exact ⟨_, _, .sl _ _ b off cap css hc h hz, rfl⟩
  | slnil => exact ⟨_, _, .sl0 _, rfl⟩
  | slfull h => cases h with
    | sl0 => exact ⟨_, _, .sl0 _, rfl⟩
    | sle => exact ⟨_, _, .sle _ _ _, rfl⟩
    | sl _ _ b off cap css hc h hz => exact ⟨_, _, .sl _ _ b off _ css hc h hz, rfl⟩
  | sltok h => cases h with
    | sl0 => exact ⟨_, _, .sl0 _, rfl⟩
    | sle => exact ⟨_, _, .sle _ _ _, rfl⟩
    | sl _ _ b off cap css hc h hz => exact ⟨_, _, .sl _ _ b off _ css hc h hz, rfl⟩

theorem eqLeaf_ok {t : Nat} {x y : V T} {p q : Value} {b : Bool} (d : Nat) (ht : TyOk P E t (E.ty t)) (hx : Rep E g x p) (hy : Rep E g y q) (h : eqLeaf (E.ty t) x y = some b) :
    (Op.equalIn (d + 1) t p q).run P w = .ok b w ∧ ¬ (p = .nilIface ∧ q = .nilIface) ∧ (∀ ps, p ≠ .agg ps) := by
  unfold eqLeaf at h
  cases hty : E.ty t <;> rw [hty] at h ht <;> dsimp only at h <;> simp only [TyOk] at ht
  case int k =>
    split at h
    · split at h
      · rename_i k1 _ k2 _ hk
        have hk' := eq_of_beq hk
        subst hk'
        simp only [Option.some.injEq] at h
        subst h
        rw [hx.int_inv, hy.int_inv]
        exact ⟨by simp [Op.equalIn, run_underlying ht.1], by simp, by simp⟩
      · cases h
    · cases h
  case bool =>
    split at h
    · simp only [Option.some.injEq] at h
      subst h
      rw [hx.bool_inv, hy.bool_inv]
      exact ⟨by simp [Op.equalIn, run_underlying ht.1], by simp, by simp⟩
    · cases h
  case str =>
    split at h
    · simp only [Option.some.injEq] at h
      subst h
      rw [hx.str_inv, hy.str_inv]
      exact ⟨by simp [Op.equalIn, run_underlying ht.1, byteArray_beq], by simp, by simp⟩
    · cases h
  case slice =>
    split at h
    · simp only [Option.some.injEq] at h
      subst h
      rw [hx.nil_slice.1, hy.nsl_inv]
      exact ⟨by simp [Op.equalIn, run_underlying ht.1], by simp, by simp⟩
    · simp only [Option.some.injEq] at h
      subst h
      rw [hy.nil_slice.1, hx.nsl_inv]
      exact ⟨by simp [Op.equalIn, run_underlying ht.1], by simp, by simp⟩
    · cases h
  case ptr =>
    split at h <;> simp only [Option.some.injEq, reduceCtorEq] at h <;> subst h
    · rw [hx.npt_inv, hy.npt_inv]
      exact ⟨by simp [Op.equalIn, run_underlying ht.1], by simp, by simp⟩
    · obtain ⟨_, _, rfl⟩ := hx.ptr_inv
      rw [hy.npt_inv]
      exact ⟨by simp [Op.equalIn, run_underlying ht.1], by simp, by simp⟩
    · obtain ⟨_, _, rfl⟩ := hy.ptr_inv
      rw [hx.npt_inv]
      exact ⟨by simp [Op.equalIn, run_underlying ht.1], by simp, by simp⟩
    · obtain ⟨_, _, _, _, _, rfl⟩ := hx.adr_inv
      rw [hy.npt_inv]
      exact ⟨by simp [Op.equalIn, run_underlying ht.1], by simp, by simp⟩
    · obtain ⟨_, _, _, _, _, rfl⟩ := hy.adr_inv
      rw [hx.npt_inv]
      exact ⟨by simp [Op.equalIn, run_underlying ht.1], by simp, by simp⟩
  case map =>
    split at h <;> simp only [Option.some.injEq, reduceCtorEq] at h <;> subst h
    · rw [hx.nmp_inv, hy.nmp_inv]
      exact ⟨by simp [Op.equalIn, run_underlying ht.1], by simp, by simp⟩
    · obtain ⟨_, _, _, rfl⟩ := hx.map_inv
      rw [hy.nmp_inv]
      exact ⟨by simp [Op.equalIn, run_underlying ht.1], by simp, by simp⟩
    · obtain ⟨_, _, _, rfl⟩ := hy.map_inv
      rw [hx.nmp_inv]
      exact ⟨by simp [Op.equalIn, run_underlying ht.1], by simp, by simp⟩
  case func =>
    obtain ⟨⟨ps, rs, v, hu⟩, _⟩ := ht
    split at h <;> simp only [Option.some.injEq, reduceCtorEq] at h <;> subst h
    · rw [hx.nfn_inv, hy.nfn_inv]
      exact ⟨by simp [Op.equalIn, run_underlying hu], by simp, by simp⟩
    · obtain ⟨_, _, _, _, rfl⟩ := hx.fn_inv
      rw [hy.nfn_inv]
      exact ⟨by simp [Op.equalIn, run_underlying hu], by simp, by simp⟩
    · obtain ⟨_, _, _, _, rfl⟩ := hy.fn_inv
      rw [hx.nfn_inv]
      exact ⟨by simp [Op.equalIn, run_underlying hu], by simp, by simp⟩
  case iface =>
    obtain ⟨⟨ms, hu⟩, _⟩ := ht
    split at h <;> simp only [Option.some.injEq, reduceCtorEq] at h <;> subst h
    · obtain ⟨_, _, rfl⟩ := hy.ifc_inv
      rw [hx.nif_inv]
      exact ⟨by simp [Op.equalIn, run_underlying hu], by simp, by simp⟩
    · obtain ⟨_, _, rfl⟩ := hx.ifc_inv
      rw [hy.nif_inv]
      exact ⟨by simp [Op.equalIn, run_underlying hu], by simp, by simp⟩
  case struct => cases h
  case array => cases h
  case other => cases h
end
end Go.Proofs.YtnenfgpjedddoaaGreat.AI
