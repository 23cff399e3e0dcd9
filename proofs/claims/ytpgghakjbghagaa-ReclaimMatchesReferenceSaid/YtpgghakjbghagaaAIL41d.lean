/- For all numbers and lists, the functions return what the reference implementation returns: the law's own code. -/
import Derived.Test.YtpgghakjbghagaaAIL41c
set_option linter.unusedVariables false
set_option linter.unusedSimpArgs false
set_option maxRecDepth 100000
namespace Go.Proofs.Ytpgghakjbghagaa.AI
open Go
variable {X : XX}

theorem call_head : Calld EV X 8 [] [] (.bool true) [] :=
  calld_run rfl (evalN_runs (ext := fun _ _ _ => none) (fun _ _ _ _ _ h => by cases h) 20000 _ (show evalN EV (fun _ _ _ => none) 20000 (entryC EV 8 [] []) = some (.bool true, []) by kernel_rfl))
theorem Law_inner {owed month paid : Int} {pairs : List (List Int × List Int)} {len idx : Int} {a b : List Int} (h : Runs EV X (Law_6 owed month paid true pairs len (IntKind.i64.wrap (idx + 1))) (.bool true) []) :
    ∀ k : Nat, Runs EV X (Law_16 owed month paid true (k : Int) pairs len idx a b) (.bool true) [] := by
  refine down 5 (fun k hk => ?_) (fun k hk ih => ?_)
  · refine runs_by (Law_16_eq _ _ _ _ _ _ _ _ _ _) ?_
    simp only [Tr.ok, true_and]
    exact ⟨fun _ => ⟨fun _ => ⟨fun h => by simp at h; omega, fun _ => h⟩, fun _ => h⟩, fun _ => h⟩
  · refine runs_by (Law_16_eq _ _ _ _ _ _ _ _ _ _) ?_
    simp only [Tr.ok, Int.toNat_natCast, true_and]
    refine ⟨fun c1 => ⟨fun c2 => ⟨fun c3 => ?_, fun _ => h⟩, fun _ => h⟩, fun _ => h⟩
    have c1 : k < a.length := by simp at c1; omega
    have c2 : k < b.length := by simp at c2; omega
    refine ⟨by simp; omega, by simp; omega, nextS (a.getD k 0) paid (b.getD k 0), call_Next _ _ _, by simp; omega, by simp; omega, nextS (a.getD k 0) paid (b.getD k 0), call_RNext _ _ _, ?_⟩
    rw [wr (x := (k : Int) + 1) (by omega) (by omega)]
    refine ⟨fun _ => ?_, fun h => by simp at h⟩
    simp only [beq_self_eq_true]
    exact ⟨fun _ => ih, fun h => by cases h⟩
theorem Law_outer {owed month paid : Int} {pairs : List (List Int × List Int)} (ho : inI owed) (hm : inI month) (hp : ∀ p ∈ pairs, p.1.length < 100000000 ∧ p.2.length < 100000000) (hl : pairs.length ≤ 3) :
    ∀ j, j ≤ pairs.length → Runs EV X (Law_6 owed month paid true pairs (pairs.length : Int) (j : Int)) (.bool true) [] := by
  refine down pairs.length (fun j hj hj2 => ?_) (fun j hj ih _ => ?_)
  · refine runs_by (Law_6_eq _ _ _ _ _ _ _) ?_
    simp only [Tr.ok, true_and]
    exact ⟨fun h => by simp at h; omega, fun _ => trivial⟩
  · have hpj := hp pairs[j] (List.getElem_mem hj)
    have q1 := pickS_in (n := 1000000000) ho (by decide)
    have q2 := pickS_in (n := 1220) hm (by decide)
    have hq1 : inI (pickS owed 1000000000) := ⟨by omega, by omega⟩
    have hq2 : inI (pickS month 1220) := ⟨by omega, by omega⟩
    have f1 := foldS_len pairs[j].1 pairs[j].2
    have f2 := schedS_len owed month pairs[j].2
    have f3 := schedS_len (pickS owed 1000000000) (pickS month 1220) pairs[j].2
    refine runs_by (Law_6_eq _ _ _ _ _ _ _) ?_
    simp only [Tr.ok, Int.toNat_natCast, getD_at hj, true_and]
    refine ⟨fun _ => ⟨by simp; omega, foldS pairs[j].1 pairs[j].2, call_Fold _ _, foldS pairs[j].1 pairs[j].2, call_RFold _ _, schedS owed month pairs[j].2, call_Schedule _ ho hm (by omega), schedS owed month pairs[j].2, call_RSchedule _ ho hm (by omega),
      pickS owed 1000000000, call_pick ho (by decide), pickS month 1220, call_pick hm (by decide), schedS (pickS owed 1000000000) (pickS month 1220) pairs[j].2, call_Schedule _ hq1 hq2 (by omega),
      pickS owed 1000000000, call_pick ho (by decide), pickS month 1220, call_pick hm (by decide), schedS (pickS owed 1000000000) (pickS month 1220) pairs[j].2, call_RSchedule _ hq1 hq2 (by omega), ?_⟩, fun h => by simp at h; omega⟩
    simp only [beq_self_eq_true, forall_const, Bool.true_eq_false, false_implies, and_true]
    refine ⟨true, call_Same _ (by omega), ?_⟩
    simp only [forall_const, Bool.true_eq_false, false_implies, and_true]
    refine ⟨true, call_SamePlan _ (by omega), ?_⟩
    simp only [forall_const, Bool.true_eq_false, false_implies, and_true]
    refine ⟨true, call_SamePlan _ (by omega), ?_⟩
    simp only [forall_const, Bool.true_eq_false, false_implies, and_true]
    refine Law_inner ?_ 0
    rw [wr (x := (j : Int) + 1) (by omega) (by omega)]
    exact ih (by omega)
theorem take_len {a : List Int} {n : Int} (h : n ≤ 620) : (List.drop (Int.toNat 0) (List.take n.toNat a)).length ≤ 620 := by
  simp; omega
theorem mem_cut {a : List Int} {n : Int} {x : Int} (h : x ∈ List.drop (Int.toNat 0) (List.take n.toNat a)) : x ∈ a := List.mem_of_mem_take (List.mem_of_mem_drop h)
theorem law_runs {due nets : List Int} {owed month paid : Int} (hd : ∀ x ∈ due, inI x) (hn : ∀ x ∈ nets, inI x) (ho : inI owed) (hm : inI month) :
    Calld EV X 3 [.sl .n3 due .no, .sl .n3 nets .no, .int .i64 owed, .int .i64 month, .int .i64 paid] [] (.bool true) [] := by
  refine calld_run rfl (runs_by (Law_0_eq _ _ _ _ _) ?_)
  simp only [Tr.ok]
  refine ⟨true, call_head, by simp; omega, runs_by (Law_3_eq _ _ _ _ _ _) ?_⟩
  simp only [Tr.ok]
  refine ⟨by simp; omega, runs_by (Law_4_eq _ _ _ _ _ _) ?_⟩
  simp only [Tr.ok]
  generalize hA : List.drop (Int.toNat 0) (List.take (if 620 < (due.length : Int) then 620 else (due.length : Int)).toNat due) = A
  generalize hB : List.drop (Int.toNat 0) (List.take (if 620 < (nets.length : Int) then 620 else (nets.length : Int)).toNat nets) = B
  have lA : A.length ≤ 620 := by rw [← hA]; exact take_len (by split <;> omega)
  have lB : B.length ≤ 620 := by rw [← hB]; exact take_len (by split <;> omega)
  have mA : ∀ x ∈ A, inI x := fun x hx => hd x (mem_cut (by rw [hA]; exact hx))
  have mB : ∀ x ∈ B, inI x := fun x hx => hn x (mem_cut (by rw [hB]; exact hx))
  generalize hk : (if (B.length : Int) < (A.length : Int) then (B.length : Int) else (A.length : Int)) = k
  have k1 : 0 ≤ k ∧ k ≤ A.length ∧ k ≤ B.length ∧ k ≤ 620 := by rw [← hk]; split <;> omega
  obtain ⟨ra, a1, a2⟩ := call_amounts (X := X) (List.drop (Int.toNat 0) (List.take k.toNat A)) fun x hx => mA x (mem_cut hx)
  obtain ⟨rb, b1, b2⟩ := call_amounts (X := X) (List.drop (Int.toNat 0) (List.take k.toNat B)) fun x hx => mB x (mem_cut hx)
  refine runs_by (Law_5_eq _ _ _ _ _ _ _) ?_
  simp only [Tr.ok]
  refine ⟨by simp; omega, by simp; omega, by simp; omega, ra, a2, by simp; omega, rb, b2, ?_⟩
  have t1 := take_len (a := A) k1.2.2.2
  have t2 := take_len (a := B) k1.2.2.2
  exact Law_outer ho hm (fun p hp => by
    simp only [List.mem_cons, List.not_mem_nil, or_false] at hp
    rcases hp with rfl | rfl | rfl
    · exact ⟨by dsimp only; omega, by dsimp only; omega⟩
    · exact ⟨by dsimp only; omega, by dsimp only; omega⟩
    · exact ⟨by dsimp only; omega, by dsimp only; omega⟩) (by simp) 0 (by simp)
theorem xOk : ∀ f args obs r obs', (fun _ _ _ _ _ => False : XX) f args obs r obs' → Callee Try.prog EV f args obs r obs' := fun _ _ _ _ _ h => h.elim
theorem dom_int {x : Int} (h : Dom EV (.int .i64 x)) : inI x := by
  cases h with
  | int h =>
    simp [Lit.wf, IntKind.has, IntKind.min, IntKind.max, IntKind.signed, IntKind.bits] at h
    exact ⟨by omega, by omega⟩
theorem dom_ints {l : List Int} {o : Own} (h : Dom EV (.sl .n3 l o)) : ∀ x ∈ l, inI x := by
  cases h with
  | sl _ h => exact fun x hx => dom_int (h x hx _ (List.mem_singleton.2 rfl))
theorem matches_runs {due nets : List Int} {owed month paid : Int} (h1 : Dom EV (.sl .n3 due .no)) (h2 : Dom EV (.sl .n3 nets .no)) (h3 : Dom EV (.int .i64 owed)) (h4 : Dom EV (.int .i64 month)) (h5 : Dom EV (.int .i64 paid)) :
    Calld EV (fun _ _ _ _ _ => False : XX) 3 [.sl .n3 due .no, .sl .n3 nets .no, .int .i64 owed, .int .i64 month, .int .i64 paid] [] (.bool true) [] :=
  law_runs (dom_ints h1) (dom_ints h2) (dom_int h3) (dom_int h4)
end Go.Proofs.Ytpgghakjbghagaa.AI
