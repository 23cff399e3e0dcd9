/- For every input the law 'CodexNumbers' returns true, and the input reads as it did: the row, from the run of the law in the abstract interpreter. -/
import Derived.Test.YtnenfgpjedddoaaGreatRows
import Derived.Test.YtnenfgpjedddoaaGreatAIR10n
import Derived.WalkKit
import Derived.ProofKit
import Derived.OpenShut
import Derived.ShutString
import Derived.ChangeOld
import Derived.Below
import Derived.SizedLaws
import Derived.HandedShaped
import Derived.Shelf.Vars
namespace Go.Proofs.YtnenfgpjedddoaaGreat.codexNumbers
open Go.ChangeShapes Go.WideShapes Go.ChangeAt Go.RowKit Go.Proofs.YtnenfgpjedddoaaGreat.AI
open Go.ChangeMaps (open_string shut_string)
set_option linter.unusedVariables false
set_option linter.unusedSimpArgs false
set_option maxRecDepth 100000
theorem own : ownKnob Tryz.prog.godebug = none := by kernel_rfl
theorem laidOut : laidOutB Tryz.prog = true := by kernel_rfl
theorem lifted (os : Os) (started : os.Started) (H : Type) (enc : TypeId × Value → H) :
    ReturnsInHanded {} Tryz.checked os 10 .any (Rows.codexNumbersSpec.pre6 enc Tryz.prog Tryz.f10 Rows.codexNumbersRow.domain false) (Rows.codexNumbersSpec.post enc Tryz.prog Tryz.f10 false true false false) := by
  refine returnsInHanded_of_change_shaped (C := Tryz.checked) own started (by kernel_rfl) Tryz.func10
    (ChangeSpec.witness6 (enc := enc) (C := Tryz.checked) false ⟨#[], #[.agg #[.slice none 0 0, .slice none 0 0, .slice none 0 0], .int .u16 0], []⟩ 8 (by kernel_rfl) (by kernel_rfl) (by kernel_rfl) (by kernel_rfl)) ?_
  intro W base args ds gs before hval0 hW hcnd hsz0 hsh _
  have hsz : (DataW.weightsEach Tryz.prog (Tryz.f10.params.toList ++ Rows.codexNumbersSpec.plain.varTypes Tryz.prog) (ds ++ gs)).all (· ≤ reachBytes) = true := hsz0
  have hval : ∀ (j : Nat) t v, Tryz.f10.params[j]? = some t → args[j]? = some v → Value.okWide Tryz.prog W .any base t v := hval0
  have hW' := hW
  obtain ⟨p, q, hA0, hV, rfl, hfz, hnd⟩ := hW
  have hA : DataW.TrodAll enc Tryz.prog W 0 (fun _ => true) true Tryz.f10.params.toList args.toList ds p := hA0
  rw [Tryz.params10] at hA hval hsz
  obtain ⟨v0, vs0, d0, ds0, p0, q0, hargs, rfl, rfl, h0, r0⟩ := trodAll_cons hA
  obtain ⟨v1, vs1, d1, ds1, p1, q1, rfl, rfl, rfl, h1, r1⟩ := trodAll_cons r0
  obtain ⟨rfl, rfl, rfl⟩ := trodAll_nil r1
  obtain rfl : args = #[v0, v1] := by cases args; simp_all
  obtain ⟨rfl, rfl⟩ := trodVars_none hV
  have lt0 : ∀ x ∈ p0, x.block < W.heap.size := by obtain ⟨m, hm⟩ := h0; exact DataW.trod_lt m _ _ _ hm
  obtain ⟨cs0, s0, dm0, rp0⟩ := arg_ok envOk tells passes.dec (t := 31) (by kernel_rfl) (hval 0 31 v0 rfl rfl) h0 (weightsEach_at hsz (i := 0) (t := 31) (d := d0) rfl rfl)
  have lt1 : ∀ x ∈ p1, x.block < W.heap.size := by obtain ⟨m, hm⟩ := h1; exact DataW.trod_lt m _ _ _ hm
  obtain ⟨cs1, s1, dm1, rp1⟩ := arg_ok envOk tells passes.dec (t := 73) (by kernel_rfl) (hval 1 73 v1 rfl rfl) h1 (weightsEach_at hsz (i := 1) (t := 73) (d := d1) rfl rfl)
  obtain ⟨x0, hx0⟩ := tells.dec .n31 cs0 (by kernel_rfl) s0
  have hc0 : cs0 = encT .n31 x0 := shape_enc passes.dec s0 hx0
  subst hc0
  obtain ⟨c1, cs1', hcs1, ⟨x1, hx1⟩, se1⟩ := shape_cons (t := 73) (ts := []) s1
  obtain rfl := shape_nil se1
  subst hcs1; subst hx1
  have df1 := dm1 _ (List.mem_singleton.2 rfl)
  have hints : ∀ gl, intsT gl = true → ∃ m, W.cell? ⟨gl, 0, none⟩ = some (.int .i64 m) := by
    intro gl hg
    simp only [intsT, Bool.or_eq_true] at hg
    obtain hg := hg
    all_goals obtain rfl := Nat.eq_of_beq_eq_true hg
    · exact Go.Proofs.cell_of_shapedOpen_int (zero := #[.int .i64 0]) (t := 3) hsh (of_decide_eq_true (by kernel_rfl)) (by kernel_rfl) rfl (by kernel_rfl) (by kernel_rfl) Tryz.underlying3
  have hrun := numbers_row dm0 df1
  have hcall := (calld_callee envOk xOk hrun).2 ⟨allG W, []⟩ W [v0, v1] (inv_all (fun _ => rfl) hints) (.cons rp0 (.cons rp1 (.nil)))
  refine hcall.mono fun e W' ⟨v, g', he, hl, hv⟩ => ?_
  obtain rfl := hv.bool_inv
  have bel := left_below hl
  exact ⟨_, he, _, _, _, [], _, [], hW', trodAll_mk1 (shut_bool Tryz.underlying4 _), (trodAll_cons_mk (Below.trod laidOut (by kernel_rfl) (of_decide_eq_true (by kernel_rfl)) h0 bel lt0) (trodAll_cons_mk (Below.trod laidOut (by kernel_rfl) (of_decide_eq_true (by kernel_rfl)) h1 bel lt1) trodAll_mk0)), rfl, bel.frame _, fun h => by cases h⟩
theorem over : Rows.codexNumbersRow.holds Tryz.pinned (OpenSpec.ofChange Rows.codexNumbersSpec) :=
  OpenClaim.holds_of_wide 10 Tryz.f10 rfl rfl rfl rfl rfl rfl rfl ⟨rfl, rfl, rfl, rfl, rfl⟩ rfl rfl rfl rfl rfl (by kernel_rfl) Tryz.func10 (by kernel_rfl)
    (of_decide_eq_true (by kernel_rfl)) (by unfold Func.isWrapper; first | (rw [if_pos (by decide +kernel)]; kernel_rfl) | (rw [if_neg (by decide +kernel)]; exact ⟨rfl, rfl⟩))
    (fun os started H enc _ => lifted os started H enc)
theorem proved : Rows.CodexNumbersSaid := over
#print axioms proved
end Go.Proofs.YtnenfgpjedddoaaGreat.codexNumbers
namespace Go.Proofs.YtnenfgpjedddoaaGreat
/-- The row, under a short name, for the claim. -/
theorem codexNumbers_holds : Rows.CodexNumbersSaid := codexNumbers.proved
end Go.Proofs.YtnenfgpjedddoaaGreat
