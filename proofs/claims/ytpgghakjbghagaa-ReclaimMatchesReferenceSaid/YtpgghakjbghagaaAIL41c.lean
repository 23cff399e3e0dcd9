/- What the functions of layer 41 compute: Schedule, the comparisons, the law. -/
import Derived.Test.YtpgghakjbghagaaAIL41b
set_option linter.unusedVariables false
set_option linter.unusedSimpArgs false
set_option maxRecDepth 100000
namespace Go.Proofs.Ytpgghakjbghagaa.AI
open Go
variable {X : XX}

theorem call_Schedule {owed month : Int} (nets : List Int) (h1 : inI owed) (h2 : inI month) (hl : nets.length < 1000000000000) : Calld EV X 12 [.int .i64 owed, .int .i64 month, .sl .n3 nets .no] [] (.tup [.sl .n41 (schedS owed month nets).1 .no, .int .i64 (schedS owed month nets).2.1, .int .i64 (schedS owed month nets).2.2]) [] := by
  refine calld_run rfl (runs_by (Schedule_0_eq _ _ _) ?_)
  obtain ⟨h1a, h1b⟩ := h1
  obtain ⟨h2a, h2b⟩ := h2
  have e1 : (owed < 0 ∨ month < 0 ∨ 1199 < month) → schedS owed month nets = ([], 0, 1) := fun h => by simp only [schedS, if_pos h]
  have e2 : ¬ (owed < 0 ∨ month < 0 ∨ 1199 < month) → (600 < nets.length ∨ 1199 < month + nets.length - 1) → schedS owed month nets = ([], 0, 2) := fun h h' => by simp only [schedS, if_neg h, if_pos h']
  have e3 : ¬ (owed < 0 ∨ month < 0 ∨ 1199 < month) → ¬ (600 < nets.length ∨ 1199 < month + nets.length - 1) → ¬ (inR owed && nets.all inR) = true → schedS owed month nets = ([], 0, 3) := fun h h' h'' => by simp only [schedS, if_neg h, if_neg h', if_neg h'']
  have e4 : ¬ (owed < 0 ∨ month < 0 ∨ 1199 < month) → ¬ (600 < nets.length ∨ 1199 < month + nets.length - 1) → (inR owed && nets.all inR) = true → schedS owed month nets = ((plan nets month owed).1, (plan nets month owed).2, 0) := fun h h' h'' => by simp only [schedS, if_neg h, if_neg h', if_pos h'']
  simp only [Tr.ok, true_and]
  refine ⟨fun c1 => ⟨fun c2 => ⟨fun c3 => ⟨?_, trivial⟩, fun c3 => ⟨fun c4 => ⟨fun c5 => ⟨?_, trivial⟩, fun c5 => ⟨inR owed, call_inRange1 _, fun c6 => ⟨nets.all inR, call_inRange _ hl, fun c7 => ⟨?_, trivial⟩, fun c7 => ?_⟩, fun c6 => ⟨?_, trivial⟩⟩⟩, fun c4 => ⟨?_, trivial⟩⟩⟩, fun c2 => ⟨?_, trivial⟩⟩, fun c1 => ⟨?_, trivial⟩⟩
  · rw [e1 (by simp at c3; omega)]
  · simp at c1 c2 c3 c4 c5
    rw [wr (x := month + _) (by omega) (by omega), wr (by omega) (by omega)] at c5
    rw [e2 (by omega) (by omega)]
  · simp at c1 c2 c3 c4 c5
    rw [wr (x := month + _) (by omega) (by omega), wr (by omega) (by omega)] at c5
    have c7 := not_true c7
    rw [e3 (by omega) (by omega) (by rw [c7]; simp)]
  · simp at c1 c2 c3 c4 c5
    rw [wr (x := month + _) (by omega) (by omega), wr (by omega) (by omega)] at c5
    have c7 := not_false' c7
    have c6 : inR owed = true := by cases h : inR owed <;> simp [h] at c6; rfl
    rw [e4 (by omega) (by omega) (by rw [c6, c7]; rfl)]
    have := Schedule_loop (X := X) (nets := nets) (month := month) c2 (by omega) (by omega) c7 0 owed [] (by omega) (by simp) c1 (inR_iff.1 c6).2
    simpa using this
  · simp at c1 c2 c3 c4 c5
    rw [wr (x := month + _) (by omega) (by omega), wr (by omega) (by omega)] at c5
    have c6 : inR owed = false := by cases h : inR owed <;> simp [h] at c6; rfl
    rw [e3 (by omega) (by omega) (by rw [c6]; simp)]
  · simp at c1 c2 c3 c4
    rw [e2 (by omega) (by omega)]
  · simp at c1 c2
    rw [e1 (by omega)]
  · simp at c1
    rw [e1 (by omega)]
theorem RSchedule_loop {nets : List Int} {month : Int} (h0 : 0 ≤ month) (hm : month ≤ 1199) (hl : nets.length ≤ 600) (hn : nets.all inR = true) : ∀ k, ∀ (owed : Int) (out : List S41), k ≤ nets.length → out.length ≤ k → 0 ≤ owed → owed ≤ 1000000000000 →
    Runs EV X (RSchedule_14 owed month nets out (k : Int)) (.tup [.sl .n41 (out ++ (plan (nets.drop k) (month + k) owed).1) .no, .int .i64 (plan (nets.drop k) (month + k) owed).2, .int .i64 0]) [] := by
  refine down nets.length (fun k hk owed out hk2 ho ho1 ho2 => ?_) (fun k hk ih owed out _ ho ho1 ho2 => ?_)
  · refine runs_by (RSchedule_14_eq _ _ _ _ _) ?_
    simp only [Tr.ok]
    refine ⟨fun h => ?_, fun _ => ⟨?_, trivial⟩⟩
    · simp at h; omega
    · rw [List.drop_eq_nil_of_le hk]
      simp [plan]
  · refine runs_by (RSchedule_14_eq _ _ _ _ _) ?_
    rw [List.drop_eq_getElem_cons hk, plan]
    have hnk := inR_iff.1 (List.all_eq_true.1 hn nets[k] (List.getElem_mem hk))
    have ht := t4 nets[k]
    have next : ¬ 0 < min owed (max nets[k] 0 / 4) → Runs EV X (RSchedule_14 owed month nets out (IntKind.i64.wrap ((k : Int) + 1))) (.tup [.sl .n41 (out ++ (plan (nets.drop (k + 1)) (month + k + 1) owed).1) .no, .int .i64 (plan (nets.drop (k + 1)) (month + k + 1) owed).2, .int .i64 0]) [] := fun h => by
      rw [wr (x := (k : Int) + 1) (by omega) (by omega)]
      have := ih owed out (by omega) (by omega) ho1 ho2
      rw [show month + ((k + 1 : Nat) : Int) = month + k + 1 by omega] at this
      exact this
    simp only [Tr.ok, Int.toNat_natCast, getD_at hk, true_and]
    refine ⟨fun _ => ⟨by simp; omega, fun hp => ⟨by simp; omega, ?_⟩, fun hp => ?_⟩, fun h => ?_⟩
    · have hp : 0 < nets[k] := by simpa using hp
      rw [if_pos (by omega)] at ht
      rw [ht, wr (x := nets[k] / 4) (by omega) (by omega)]
      have hmin : (if nets[k] / 4 < owed then nets[k] / 4 else owed) = min owed (max nets[k] 0 / 4) := by split <;> omega
      rw [hmin]
      refine ⟨fun h => ⟨?_, ?_⟩, fun h => ?_⟩
      · simp; omega
      · have h : 0 < min owed (max nets[k] 0 / 4) := by simpa using h
        rw [if_pos h, wr (x := owed - _) (by omega) (by omega), wr (x := month + k) (by omega) (by omega), wr (x := (k : Int) + 1) (by omega) (by omega)]
        have := ih (owed - min owed (max nets[k] 0 / 4)) (out ++ [⟨month + k, min owed (max nets[k] 0 / 4)⟩]) (by omega) (by simp; omega) (by omega) (by omega)
        rw [show month + ((k + 1 : Nat) : Int) = month + k + 1 by omega] at this
        simpa using this
      · have h : ¬ 0 < min owed (max nets[k] 0 / 4) := by simpa using h
        rw [if_neg h]
        exact next h
    · have hp : ¬ 0 < nets[k] := by simpa using hp
      have h : ¬ 0 < min owed (max nets[k] 0 / 4) := by omega
      rw [if_neg h]
      exact next h
    · simp at h; omega
theorem RSchedule_big {owed month : Int} {nets : List Int} (h0 : 0 ≤ month) (hm : month ≤ 1199) (hl : nets.length ≤ 600) (ho : 0 ≤ owed) : ∀ k, ∀ (big : Bool), k ≤ nets.length → (big = false → inR owed = true ∧ (nets.take k).all inR = true) → (big = true → ¬ (inR owed && nets.all inR) = true) →
    Runs EV X (RSchedule_7 owed month nets big (k : Int)) (match inR owed && nets.all inR with
      | true => .tup [.sl .n41 (plan nets month owed).1 .no, .int .i64 (plan nets month owed).2, .int .i64 0]
      | false => .tup [.sl .n41 [] .no, .int .i64 0, .int .i64 3]) [] := by
  refine down nets.length (fun k hk big hk2 hb1 hb2 => ?_) (fun k hk ih big _ hb1 hb2 => ?_)
  · refine runs_by (RSchedule_7_eq _ _ _ _ _) ?_
    simp only [Tr.ok, true_and]
    refine ⟨fun h => ?_, fun _ => ⟨fun hb => ⟨?_, trivial⟩, fun hb => ?_⟩⟩
    · simp at h; omega
    · have := hb2 hb
      cases h : (inR owed && nets.all inR) with
      | true => rw [h] at this; exact absurd rfl this
      | false => rfl
    · obtain ⟨h1, h2⟩ := hb1 hb
      rw [List.take_of_length_le hk] at h2
      rw [h1, h2]
      have := RSchedule_loop (X := X) (nets := nets) (month := month) h0 hm hl h2 0 owed [] (by omega) (by simp) ho (inR_iff.1 h1).2
      simpa using this
  · refine runs_by (RSchedule_7_eq _ _ _ _ _) ?_
    simp only [Tr.ok, Int.toNat_natCast, getD_at hk, true_and]
    refine ⟨fun _ => ⟨fun hb => ⟨by simp; omega, !inR nets[k], call_Big _, ?_⟩, fun hb => ?_⟩, fun h => ?_⟩
    · rw [wr (x := (k : Int) + 1) (by omega) (by omega)]
      have hb := not_true hb
      obtain ⟨h1, h2⟩ := hb1 hb
      refine ih _ (by omega) (fun h => ?_) (fun h => ?_)
      · have h := not_false' h
        refine ⟨h1, ?_⟩
        rw [List.take_add_one, List.getElem?_eq_getElem hk, List.all_append, h2]
        simpa using h
      · have h := not_true h
        intro h3
        simp only [Bool.and_eq_true] at h3
        have := List.all_eq_true.1 h3.2 nets[k] (List.getElem_mem hk)
        rw [h] at this; cases this
    · rw [wr (x := (k : Int) + 1) (by omega) (by omega)]
      have hb := not_false' hb
      exact ih _ (by omega) (fun h => by cases h) (fun _ => hb2 hb)
    · simp at h; omega
theorem call_RSchedule {owed month : Int} (nets : List Int) (h1 : inI owed) (h2 : inI month) (hl : nets.length < 1000000000000) : Calld EV X 13 [.int .i64 owed, .int .i64 month, .sl .n3 nets .no] [] (.tup [.sl .n41 (schedS owed month nets).1 .no, .int .i64 (schedS owed month nets).2.1, .int .i64 (schedS owed month nets).2.2]) [] := by
  refine calld_run rfl (runs_by (RSchedule_0_eq _ _ _) ?_)
  obtain ⟨h1a, h1b⟩ := h1
  obtain ⟨h2a, h2b⟩ := h2
  have e1 : (owed < 0 ∨ month < 0 ∨ 1199 < month) → schedS owed month nets = ([], 0, 1) := fun h => by simp only [schedS, if_pos h]
  have e2 : ¬ (owed < 0 ∨ month < 0 ∨ 1199 < month) → (600 < nets.length ∨ 1199 < month + nets.length - 1) → schedS owed month nets = ([], 0, 2) := fun h h' => by simp only [schedS, if_neg h, if_pos h']
  simp only [Tr.ok, true_and]
  refine ⟨fun c1 => ⟨fun c2 => ⟨fun c3 => ⟨?_, trivial⟩, fun c3 => ⟨fun c4 => ⟨fun c5 => ⟨?_, trivial⟩, fun c5 => ⟨!inR owed, call_Big _, ?_⟩⟩, fun c4 => ⟨?_, trivial⟩⟩⟩, fun c2 => ⟨?_, trivial⟩⟩, fun c1 => ⟨?_, trivial⟩⟩
  · rw [e1 (by simp at c3; omega)]
  · simp at c1 c2 c3 c4 c5
    rw [wr (by omega) (by omega)] at c5
    rw [e2 (by omega) (by omega)]
  · simp at c1 c2 c3 c4 c5
    rw [wr (by omega) (by omega)] at c5
    have := RSchedule_big (X := X) (owed := owed) (month := month) (nets := nets) c2 (by omega) (by omega) c1 0 (!inR owed) (by omega) (fun h => ⟨not_false' h, by simp⟩) (fun h h' => by rw [not_true h] at h'; cases h')
    have e : schedS owed month nets = if (inR owed && nets.all inR) = true then ((plan nets month owed).1, (plan nets month owed).2, 0) else ([], 0, 3) := by
      unfold schedS
      rw [if_neg (by omega), if_neg (by omega)]
    rw [e]
    cases h : (inR owed && nets.all inR) <;> rw [h] at this <;> simpa using this
  · simp at c1 c2 c3 c4
    rw [e2 (by omega) (by omega)]
  · simp at c1 c2
    rw [e1 (by omega)]
  · simp at c1
    rw [e1 (by omega)]

/-! ### Comparisons -/
theorem call_Same (a : List Int) (hl : a.length < 1000000000000) : Calld EV X 15 [.sl .n3 a .no, .sl .n3 a .no] [] (.bool true) [] := by
  have loop : ∀ k, k ≤ a.length → Runs EV X (Same_4 a a (k : Int)) (.bool true) [] := by
    refine down a.length (fun k hk hk2 => ?_) (fun k hk ih _ => ?_)
    · refine runs_by (Same_4_eq _ _ _) ?_
      simp only [Tr.ok, true_and]
      exact ⟨fun h => by simp at h; omega, fun _ => trivial⟩
    · refine runs_by (Same_4_eq _ _ _) ?_
      simp only [Tr.ok, true_and]
      refine ⟨fun _ => ⟨by simp; omega, by simp; omega, fun h => by simp at h, fun _ => ?_⟩, fun h => by simp at h; omega⟩
      rw [wr (x := (k : Int) + 1) (by omega) (by omega)]
      exact ih (by omega)
  refine calld_run rfl (runs_by (Same_0_eq a a) ?_)
  simp only [Tr.ok, true_and]
  exact ⟨fun h => by simp at h, fun _ => loop 0 (by omega)⟩
theorem call_SamePlan (a : List S41) (hl : a.length < 1000000000000) : Calld EV X 16 [.sl .n41 a .no, .sl .n41 a .no] [] (.bool true) [] := by
  have loop : ∀ k, k ≤ a.length → Runs EV X (SamePlan_4 a a (k : Int)) (.bool true) [] := by
    refine down a.length (fun k hk hk2 => ?_) (fun k hk ih _ => ?_)
    · refine runs_by (SamePlan_4_eq _ _ _) ?_
      simp only [Tr.ok, true_and]
      exact ⟨fun h => by simp at h; omega, fun _ => trivial⟩
    · refine runs_by (SamePlan_4_eq _ _ _) ?_
      simp only [Tr.ok, true_and]
      refine ⟨fun _ => ⟨by simp; omega, by simp; omega, fun h => by simp at h, fun _ => ?_⟩, fun h => by simp at h; omega⟩
      rw [wr (x := (k : Int) + 1) (by omega) (by omega)]
      exact ih (by omega)
  refine calld_run rfl (runs_by (SamePlan_0_eq a a) ?_)
  simp only [Tr.ok, true_and]
  exact ⟨fun h => by simp at h, fun _ => loop 0 (by omega)⟩
theorem plan_len : ∀ (l : List Int) (m o : Int), (plan l m o).1.length ≤ l.length
  | [], m, o => by simp [plan]
  | n :: l, m, o => by
    rw [plan]
    split
    · have := plan_len l (m + 1) (o - min o (max n 0 / 4))
      simpa using this
    · have := plan_len l (m + 1) o
      simp; omega
theorem schedS_len (owed month : Int) (l : List Int) : (schedS owed month l).1.length ≤ l.length := by
  unfold schedS
  split
  · simp
  · split
    · simp
    · split
      · exact plan_len _ _ _
      · simp
theorem foldL_len : ∀ (d n : List Int) (p : Int) (l : List Int), foldL d n p = some l → l.length ≤ d.length
  | d :: ds, n :: ns, p, l, h => by
    rw [foldL] at h
    split at h
    · cases hh : foldL ds ns (p + (nextS d p n).1) with
      | none => simp [hh] at h
      | some m =>
        simp only [hh, Option.map_some, Option.some.injEq] at h
        subst h
        have := foldL_len ds ns _ m hh
        simp; omega
    · cases h
  | [], n, p, l, h => by simp [foldL] at h; simp [h]
  | d :: ds, [], p, l, h => by simp [foldL] at h; simp [h]
theorem foldS_len (d n : List Int) : (foldS d n).1.length ≤ d.length := by
  unfold foldS
  split
  · simp
  · split
    · simp
    · unfold foldR
      split
      · rename_i l h
        simpa using foldL_len _ _ _ _ h
      · simp
theorem pickS_in {c n : Int} (hc : inI c) (hn : 0 < n) : 0 ≤ pickS c n ∧ pickS c n < n := by
  obtain ⟨h1, h2⟩ := hc
  unfold pickS
  split
  · exact ⟨Int.tmod_nonneg _ (by omega), Int.tmod_lt_of_pos _ hn⟩
  · exact ⟨Int.tmod_nonneg _ (by omega), Int.tmod_lt_of_pos _ hn⟩
theorem call_amounts (l : List Int) (hl : ∀ x ∈ l, inI x) : ∃ r : List Int, r.length ≤ 40 ∧ Calld EV X 9 [.sl .n3 l .no] [] (.sl .n3 r .no) [] := by
  have loop : ∀ k, ∀ out : List Int, k ≤ 40 → out.length = k → ∃ r : List Int, r.length ≤ 40 ∧ Runs EV X (amounts_3 l out (k : Int)) (.sl .n3 r .no) [] := by
    refine down 40 (fun k hk out hk2 ho => ?_) (fun k hk ih out _ ho => ?_)
    · refine ⟨out, by omega, runs_by (amounts_3_eq _ _ _) ?_⟩
      simp only [Tr.ok, true_and]
      exact ⟨fun _ => ⟨fun h => by simp at h; omega, fun _ => trivial⟩, fun _ => trivial⟩
    · by_cases hkl : k < l.length
      · obtain ⟨r, h1, h2⟩ := ih (out ++ [pickS l[k] 1000000001]) (by omega) (by simp [ho])
        refine ⟨r, h1, runs_by (amounts_3_eq _ _ _) ?_⟩
        simp only [Tr.ok, Int.toNat_natCast, getD_at hkl, true_and]
        refine ⟨fun _ => ⟨fun _ => ⟨by simp; omega, pickS l[k] 1000000001, call_pick (hl _ (List.getElem_mem hkl)) (by decide), by simp; omega, ?_⟩, fun h => by simp at h; omega⟩, fun h => by simp at h; omega⟩
        rw [wr (x := (k : Int) + 1) (by omega) (by omega)]
        exact h2
      · refine ⟨out, by omega, runs_by (amounts_3_eq _ _ _) ?_⟩
        simp only [Tr.ok, true_and]
        exact ⟨fun h => by simp at h; omega, fun _ => trivial⟩
  obtain ⟨r, h1, h2⟩ := loop 0 [] (by omega) rfl
  refine ⟨r, h1, calld_run rfl (runs_by (amounts_0_eq l) ?_)⟩
  exact h2
end Go.Proofs.Ytpgghakjbghagaa.AI
