/- What the functions of layer 41 compute: lists. -/
import Derived.Test.YtpgghakjbghagaaAIL41
set_option linter.unusedVariables false
set_option linter.unusedSimpArgs false
namespace Go.Proofs.Ytpgghakjbghagaa.AI
open Go
variable {X : XX}

theorem not_true {b : Bool} (h : (!b) = true) : b = false := by cases b <;> first | rfl | cases h
theorem not_false' {b : Bool} (h : (!b) = false) : b = true := by cases b <;> first | rfl | cases h
theorem foldL_cons {due nets : List Int} {k : Nat} (h1 : k < due.length) (h2 : k < nets.length) (paid : Int) :
    foldL (due.drop k) (nets.drop k) paid = if ((nextS due[k] paid nets[k]).2 == 0 && inR (paid + (nextS due[k] paid nets[k]).1)) = true then (foldL (due.drop (k + 1)) (nets.drop (k + 1)) (paid + (nextS due[k] paid nets[k]).1)).map ((paid + (nextS due[k] paid nets[k]).1) :: ·) else none := by
  rw [List.drop_eq_getElem_cons h1, List.drop_eq_getElem_cons h2, foldL]
theorem foldR_none (pre : List Int) : foldR none pre = ([], 3) := rfl
theorem foldR_map (o : Option (List Int)) (x : Int) (pre : List Int) : foldR (o.map (x :: ·)) pre = foldR o (pre ++ [x]) := by
  cases o <;> simp [foldR]
theorem Fold_loop {due nets : List Int} (he : due.length = nets.length) (hl : due.length ≤ 600) : ∀ k, ∀ (paid : Int) (out : List Int), k ≤ due.length → out.length = due.length → inR paid = true →
    Runs EV X (Fold_9 (due.length : Int) (k : Int) paid due nets out) (.tup [.sl .n3 (foldR (foldL (due.drop k) (nets.drop k) paid) (out.take k)).1 .no, .int .i64 (foldR (foldL (due.drop k) (nets.drop k) paid) (out.take k)).2]) [] := by
  refine down due.length (fun k hk paid out hk2 ho hp => ?_) (fun k hk ih paid out _ ho hp => ?_)
  · refine runs_by (Fold_9_eq _ _ _ _ _ _) ?_
    simp only [Tr.ok]
    refine ⟨fun h => ?_, fun _ => ⟨?_, trivial⟩⟩
    · simp at h; omega
    · rw [List.drop_eq_nil_of_le hk, List.take_of_length_le (by omega)]
      simp [foldL, foldR]
  · refine runs_by (Fold_9_eq _ _ _ _ _ _) ?_
    rw [foldL_cons hk (by omega)]
    simp only [Tr.ok, true_and]
    refine ⟨fun _ => ⟨((nextS due[k] paid nets[k]).2 == 0 && inR (paid + (nextS due[k] paid nets[k]).1), due, paid + (nextS due[k] paid nets[k]).1, nets), call_Step hk (by omega) hp (by omega), fun h => ?_, fun h => ?_⟩, fun h => ?_⟩
    · have h : ((nextS due[k] paid nets[k]).2 == 0 && inR (paid + (nextS due[k] paid nets[k]).1)) = false := not_true h
      rw [h]
      exact ⟨rfl, trivial⟩
    · have h : ((nextS due[k] paid nets[k]).2 == 0 && inR (paid + (nextS due[k] paid nets[k]).1)) = true := not_false' h
      rw [h, if_pos rfl, foldR_map]
      refine ⟨by simp; omega, ?_⟩
      have := ih (paid + (nextS due[k] paid nets[k]).1) (out.set k (paid + (nextS due[k] paid nets[k]).1)) (by omega) (by simp [ho]) (by simp at h; exact h.2)
      have ht : (out.set k (paid + (nextS due[k] paid nets[k]).1)).take (k + 1) = out.take k ++ [paid + (nextS due[k] paid nets[k]).1] := by
        rw [List.take_add_one, List.getElem?_set_self (by omega), List.take_set_of_le (Nat.le_refl _)]
        rfl
      rw [ht] at this
      simp only [Int.toNat_natCast]
      rw [wr (by omega) (by omega)]
      exact this
    · simp at h; omega
def foldS (due nets : List Int) : List Int × Int := if due.length ≠ nets.length then ([], 1) else if 600 < due.length then ([], 2) else foldR (foldL due nets 0) []
theorem call_Fold (due nets : List Int) : Calld EV X 10 [.sl .n3 due .no, .sl .n3 nets .no] [] (.tup [.sl .n3 (foldS due nets).1 .no, .int .i64 (foldS due nets).2]) [] := by
  refine calld_run rfl (runs_by (Fold_0_eq _ _) ?_)
  simp only [Tr.ok, true_and]
  refine ⟨fun h => ⟨?_, trivial⟩, fun h => ⟨fun h2 => ⟨?_, trivial⟩, fun h2 => ⟨?_, ?_⟩⟩⟩
  · have h : due.length ≠ nets.length := by simp at h; omega
    simp [foldS, h]
  · have h : due.length = nets.length := by simp at h; omega
    have h2 : 600 < due.length := by simp at h2; omega
    simp [foldS, h, show 600 < nets.length by omega]
  · have h2 : ¬ 600 < due.length := by simp at h2; omega
    simp
    omega
  · have h : due.length = nets.length := by simp at h; omega
    have h2 : ¬ 600 < due.length := by simp at h2; omega
    have := Fold_loop (X := X) h (by omega) 0 0 (List.replicate (due.length : Int).toNat 0) (by omega) (by simp) rfl
    simpa [foldS, h, show ¬ 600 < nets.length by omega] using this
theorem RFold_loop {due nets : List Int} (he : due.length = nets.length) (hl : due.length ≤ 600) : ∀ k, ∀ (paid : Int) (out : List Int), k ≤ due.length → out.length = k → inR paid = true →
    Runs EV X (RFold_8 due nets out paid (k : Int)) (.tup [.sl .n3 (foldR (foldL (due.drop k) (nets.drop k) paid) out).1 .no, .int .i64 (foldR (foldL (due.drop k) (nets.drop k) paid) out).2]) [] := by
  refine down due.length (fun k hk paid out hk2 ho hp => ?_) (fun k hk ih paid out _ ho hp => ?_)
  · refine runs_by (RFold_8_eq _ _ _ _ _) ?_
    simp only [Tr.ok]
    refine ⟨fun h => ?_, fun _ => ⟨?_, trivial⟩⟩
    · simp at h; omega
    · rw [List.drop_eq_nil_of_le hk]
      simp [foldL, foldR]
  · refine runs_by (RFold_8_eq _ _ _ _ _) ?_
    rw [foldL_cons hk (by omega)]
    have hk2 : k < nets.length := by omega
    have hr := inR_iff.1 (nextS_range due[k] paid nets[k])
    have hp' := inR_iff.1 hp
    simp only [Tr.ok, Int.toNat_natCast, getD_at hk, getD_at hk2, true_and]
    refine ⟨fun _ => ⟨by simp; omega, by simp; omega, nextS due[k] paid nets[k], call_RNext _ _ _, !inR (paid + (nextS due[k] paid nets[k]).1), ?_, fun h => ⟨fun h3 => ⟨?_, trivial⟩, fun h3 => ⟨?_, ?_⟩⟩, fun h => ⟨?_, trivial⟩⟩, fun h => ?_⟩
    · rw [wr (by omega) (by omega)]
      exact call_Big _
    · have h : ((nextS due[k] paid nets[k]).2 == 0) = true := by simpa using h
      have h3 : inR (paid + (nextS due[k] paid nets[k]).1) = false := by simpa using h3
      rw [h, h3]; rfl
    · simp; omega
    · have h : ((nextS due[k] paid nets[k]).2 == 0) = true := by simpa using h
      have h3 : inR (paid + (nextS due[k] paid nets[k]).1) = true := by simpa using h3
      rw [h, h3, Bool.true_and, if_pos rfl, foldR_map, wr (x := paid + _) (by omega) (by omega), wr (x := (k : Int) + 1) (by omega) (by omega)]
      exact ih _ _ (by omega) (by simp [ho]) h3
    · have h : ((nextS due[k] paid nets[k]).2 == 0) = false := by simpa using h
      rw [h]; rfl
    · simp at h; omega
theorem call_RFold (due nets : List Int) : Calld EV X 11 [.sl .n3 due .no, .sl .n3 nets .no] [] (.tup [.sl .n3 (foldS due nets).1 .no, .int .i64 (foldS due nets).2]) [] := by
  refine calld_run rfl (runs_by (RFold_0_eq _ _) ?_)
  simp only [Tr.ok, true_and]
  refine ⟨fun h => ⟨?_, trivial⟩, fun h => ⟨fun h2 => ⟨?_, trivial⟩, fun h2 => ?_⟩⟩
  · have h : due.length ≠ nets.length := by simp at h; omega
    simp [foldS, h]
  · have h : due.length = nets.length := by simp at h; omega
    have h2 : 600 < due.length := by simp at h2; omega
    simp [foldS, h, show 600 < nets.length by omega]
  · have h : due.length = nets.length := by simp at h; omega
    have h2 : ¬ 600 < due.length := by simp at h2; omega
    have := RFold_loop (X := X) h (by omega) 0 0 [] (by omega) rfl rfl
    simpa [foldS, h, show ¬ 600 < nets.length by omega] using this

/-! ### Schedule -/
def plan : List Int → Int → Int → List S41 × Int
  | [], _, o => ([], o)
  | n :: ns, m, o => if 0 < min o (max n 0 / 4) then (⟨m, min o (max n 0 / 4)⟩ :: (plan ns (m + 1) (o - min o (max n 0 / 4))).1, (plan ns (m + 1) (o - min o (max n 0 / 4))).2) else plan ns (m + 1) o
def schedS (owed month : Int) (nets : List Int) : List S41 × Int × Int :=
  if owed < 0 ∨ month < 0 ∨ 1199 < month then ([], 0, 1) else if 600 < nets.length ∨ 1199 < month + nets.length - 1 then ([], 0, 2) else if (inR owed && nets.all inR) = true then ((plan nets month owed).1, (plan nets month owed).2, 0) else ([], 0, 3)
theorem Schedule_loop {nets : List Int} {month : Int} (h0 : 0 ≤ month) (hm : month ≤ 1199) (hl : nets.length ≤ 600) (hn : nets.all inR = true) : ∀ k, ∀ (owed : Int) (out : List S41), k ≤ nets.length → out.length ≤ k → 0 ≤ owed → owed ≤ 1000000000000 →
    Runs EV X (Schedule_9 owed month out nets (nets.length : Int) (k : Int)) (.tup [.sl .n41 (out ++ (plan (nets.drop k) (month + k) owed).1) .no, .int .i64 (plan (nets.drop k) (month + k) owed).2, .int .i64 0]) [] := by
  refine down nets.length (fun k hk owed out hk2 ho ho1 ho2 => ?_) (fun k hk ih owed out _ ho ho1 ho2 => ?_)
  · refine runs_by (Schedule_9_eq _ _ _ _ _ _) ?_
    simp only [Tr.ok]
    refine ⟨fun h => ?_, fun _ => ⟨?_, trivial⟩⟩
    · simp at h; omega
    · rw [List.drop_eq_nil_of_le hk]
      simp [plan]
  · refine runs_by (Schedule_9_eq _ _ _ _ _ _) ?_
    rw [List.drop_eq_getElem_cons hk, plan]
    have hnk := inR_iff.1 (List.all_eq_true.1 hn nets[k] (List.getElem_mem hk))
    have hmax : (if 0 > nets[k] then (0 : Int) else nets[k]) = max nets[k] 0 := by split <;> omega
    have hpart : inR (max nets[k] 0) = true := inR_iff.2 ⟨by omega, by omega⟩
    have hmin : (if max nets[k] 0 / 4 < owed then max nets[k] 0 / 4 else owed) = min owed (max nets[k] 0 / 4) := by split <;> omega
    simp only [Tr.ok, Int.toNat_natCast, getD_at hk, true_and, hmax]
    refine ⟨fun _ => ⟨by simp; omega, (max nets[k] 0 / 4 : Int), call_part hpart, fun h => ⟨?_, ?_⟩, fun h => ?_⟩, fun h => ?_⟩
    · simp; omega
    · have h : 0 < min owed (max nets[k] 0 / 4) := by rw [← hmin]; simpa using h
      rw [if_pos h, hmin, wr (x := owed - _) (by omega) (by omega), wr (x := month + k) (by omega) (by omega), wr (x := (k : Int) + 1) (by omega) (by omega)]
      have := ih (owed - min owed (max nets[k] 0 / 4)) (out ++ [⟨month + k, min owed (max nets[k] 0 / 4)⟩]) (by omega) (by simp; omega) (by omega) (by omega)
      rw [show month + ((k + 1 : Nat) : Int) = month + k + 1 by omega] at this
      simpa using this
    · have h : ¬ 0 < min owed (max nets[k] 0 / 4) := by rw [← hmin]; simpa using h
      rw [if_neg h, wr (x := (k : Int) + 1) (by omega) (by omega)]
      have := ih owed out (by omega) (by omega) ho1 ho2
      rw [show month + ((k + 1 : Nat) : Int) = month + k + 1 by omega] at this
      exact this
    · simp at h; omega
end Go.Proofs.Ytpgghakjbghagaa.AI
