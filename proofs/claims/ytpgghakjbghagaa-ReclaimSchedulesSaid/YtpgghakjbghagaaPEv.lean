/- Small lemmas on 'from some number of rounds on' (Ev), for the plain laws. No conditions. -/
import Derived.Test.YtpgghakjbghagaaWWords
import Derived.Test.YtpgghakjbghagaaWMore
set_option linter.unusedVariables false
namespace Go.Proofs.Ytpgghakjbghagaa.PEv
open Go.RowKit Go.Proofs.YtpgghakjbghagaaW.PrintWords Go.Proofs.YtpgghakjbghagaaW.PrintMore

theorem Ev.pos {α : Type} {c : Prop} [Decidable c] {f g : Nat → Option α} {r : α} (h : c) (k : Ev f r) : Ev (fun n => if c then f n else g n) r := Ev.congr (fun _ => if_pos h) k
theorem Ev.neg {α : Type} {c : Prop} [Decidable c] {f g : Nat → Option α} {r : α} (h : ¬ c) (k : Ev g r) : Ev (fun n => if c then f n else g n) r := Ev.congr (fun _ => if_neg h) k
theorem Ev.konst {α : Type} {o : Option α} {r : α} (h : o = some r) : Ev (fun _ => o) r := ⟨0, fun _ _ => h⟩
/-- A call that has no rounds. -/
theorem Ev.bind0 {α β : Type} {o : Option α} {f : Nat → α → Option β} {a : α} {r : β} (h : o = some a) (k : Ev (fun n => f n a) r) : Ev (fun n => o.bind (f n)) r := Ev.bind (Ev.konst h) k
theorem Ev.eq {α : Type} {f : Nat → Option α} {r r' : α} (h : Ev f r) (e : r = r') : Ev f r' := e ▸ h
theorem Ev.uniq {α : Type} {f : Nat → Option α} {r r' : α} (h : Ev f r) (h' : Ev f r') : r = r' := by
  obtain ⟨K, h⟩ := h
  obtain ⟨K', h'⟩ := h'
  have a := h (max K K') (by omega)
  have b := h' (max K K') (by omega)
  rw [a] at b
  exact Option.some.inj b

theorem w64 {x : Int} (h0 : -9223372036854775808 ≤ x) (h1 : x ≤ 9223372036854775807) : wrap64 x = x := by unfold wrap64; omega
theorem rd_eq (l : List Int) (i : Nat) (h : i < l.length) : rd l (i : Int) = l[i] := by
  unfold rd
  simp [List.getD_eq_getElem?_getD, List.getElem?_eq_getElem h]
theorem rd_mem (l : List Int) (i : Int) (h0 : 0 ≤ i) (h : i < (l.length : Int)) : rd l i ∈ l := by
  obtain ⟨n, rfl⟩ := Int.eq_ofNat_of_zero_le h0
  rw [rd_eq l n (by omega)]
  exact List.getElem_mem _
theorem mx_eq (a b : Int) : mx a b = max a b := by unfold mx; split <;> omega
theorem mn_eq (a b : Int) : mn a b = min a b := by unfold mn; split <;> omega
theorem tdiv_pos {n m : Int} (h : 0 ≤ n) : n.tdiv m = n / m := Int.tdiv_eq_ediv_of_nonneg h
theorem tdiv_neg {n m : Int} (h : n < 0) : n.tdiv m = -((-n) / m) := by
  have : n = -(-n) := by omega
  rw [this, Int.neg_tdiv, Int.tdiv_eq_ediv_of_nonneg (by omega)]
  simp
theorem tmod_pos {n m : Int} (h : 0 ≤ n) : n.tmod m = n % m := Int.tmod_eq_emod_of_nonneg h
theorem tmod_eq (n m : Int) : n.tmod m = n - m * n.tdiv m := by
  have := Int.tmod_add_mul_tdiv n m
  omega
theorem wf_range {x : Int} (h : (Lit.int .i64 x).wf = true) : -9223372036854775808 ≤ x ∧ x ≤ 9223372036854775807 := by
  simp [Lit.wf] at h
  exact h
end Go.Proofs.Ytpgghakjbghagaa.PEv
