/- Layer 10: what a version needs, and the order: the program's side. -/
import Derived.Test.YtnenfgpjedddoaaGreatAIL10j
import Derived.Test.YtnenfgpjedddoaaGreatAITg
import Derived.Test.YtnenfgpjedddoaaGreatAIL10c
set_option linter.unusedVariables false
set_option linter.unusedSimpArgs false
namespace Go.Proofs.YtnenfgpjedddoaaGreat.AI
open Go
variable {X : XX}

/-- The expression names the article. -/
inductive Men (n : Int) : S60 → Prop
  | here {e : S60} (h : e.f0 = 3) (h2 : e.f1 = n) : Men n e
  | kid {e k : S60} (h : k ∈ e.f4) (h2 : Men n k) : Men n e
theorem Men_iff {n : Int} {e : S60} : Men n e ↔ e.f0 = 3 ∧ e.f1 = n ∨ ∃ k ∈ e.f4, Men n k := by
  constructor
  · intro h
    cases h with
    | here h h2 => exact .inl ⟨h, h2⟩
    | kid h h2 => exact .inr ⟨_, h, h2⟩
  · rintro (⟨h, h2⟩ | ⟨k, h, h2⟩)
    · exact .here h h2
    · exact .kid h h2
abbrev MB := List (Int × Bool)
def wants (m : MB) (n : Int) : Prop := (lookupT K.n3 K.n4 EV m n).getD false = true
theorem wants_upd (m : MB) (k n : Int) : wants (updT K.n3 K.n4 EV m k true) n ↔ wants m n ∨ n = k := by
  unfold wants
  by_cases e : n = k
  · subst e
    rw [lookup_same eq3]; simp
  · rw [lookup_other eq3 _ e]; simp [e]
theorem call_CNeeds1 (n : Int) (m : MB) : Calld EV X 100 [.int .i64 n, .ptr 0 0] [.box 89 [.map 1], .map .n3 .n4 m] (.tup []) [.box 89 [.map 1], .map .n3 .n4 (updT K.n3 K.n4 EV m n true)] := by
  refine calld_run rfl (runs_by (CNeeds1_0_eq n m) ?_)
  simp only [Tr.ok, nd_ok, and_true, true_and, Int.toNat_natCast, Bool.and_eq_true, Bool.or_eq_true, Bool.not_eq_true', Bool.not_eq_false', Bool.not_not, decide_eq_true_eq, decide_eq_false_iff_not, beq_iff_eq, beq_eq_false_iff_ne, ne_eq, Bool.false_eq_true, Bool.true_eq_false, false_implies, forall_const]
theorem call_CNumbers : ∀ (e : S60), okE e → ∀ m : MB, ∃ m', (∀ n, wants m' n ↔ wants m n ∨ Men n e) ∧ Calld EV X 99 [.agg (encT .n60 e), .fn 100 [] [.ptr 0 0]] [.box 89 [.map 1], .map .n3 .n4 m] (.tup []) [.box 89 [.map 1], .map .n3 .n4 m'] := by
  refine indE fun e ih oe m => ?_
  have hl := oe.len
  have loop : ∀ i, i ≤ e.f4.length → ∀ m : MB, ∃ m', (∀ n, wants m' n ↔ wants m n ∨ ∃ k ∈ e.f4.drop i, Men n k) ∧ Runs EV X (CNumbers_4 e.f4 (e.f4.length : Int) (i : Int) m) (.tup []) [.box 89 [.map 1], .map .n3 .n4 m'] := by
    refine down e.f4.length (fun i hi hi2 m => ⟨m, ?_, ?_⟩) (fun i hi ih2 _ m => ?_)
    · rw [List.drop_eq_nil_of_le hi]; simp
    · refine runs_by (CNumbers_4_eq _ _ _ _) ?_
      simp only [Tr.ok, nd_ok, and_true, true_and, Int.toNat_natCast, Bool.and_eq_true, Bool.or_eq_true, Bool.not_eq_true', Bool.not_eq_false', Bool.not_not, decide_eq_true_eq, decide_eq_false_iff_not, beq_iff_eq, beq_eq_false_iff_ne, ne_eq, Bool.false_eq_true, Bool.true_eq_false, false_implies, forall_const]
      exact ⟨fun h => by omega, fun _ => trivial⟩
    · have hm := List.getElem_mem hi
      obtain ⟨m1, h1, c1⟩ := ih _ hm (oe.kid _ hm) m
      obtain ⟨m2, h2, c2⟩ := ih2 (by omega) m1
      refine ⟨m2, fun n => ?_, runs_by (CNumbers_4_eq _ _ _ _) ?_⟩
      · rw [h2, h1, List.drop_eq_getElem_cons hi]
        simp only [List.mem_cons, exists_eq_or_imp, or_assoc]
      · simp only [Tr.ok, nd_ok, and_true, true_and, Int.toNat_natCast, Bool.and_eq_true, Bool.or_eq_true, Bool.not_eq_true', Bool.not_eq_false', Bool.not_not, decide_eq_true_eq, decide_eq_false_iff_not, beq_iff_eq, beq_eq_false_iff_ne, ne_eq, Bool.false_eq_true, Bool.true_eq_false, false_implies, forall_const, getD_at hi]
        rw [wr (by omega) (by omega)]
        exact ⟨fun _ => ⟨by omega, m1, c1, c2⟩, fun h => by omega⟩
  by_cases h3 : e.f0 = 3
  · obtain ⟨m', h, c⟩ := loop 0 (by omega) (updT K.n3 K.n4 EV m e.f1 true)
    refine ⟨m', fun n => ?_, calld_run rfl (runs_by (CNumbers_0_eq e m) ?_)⟩
    · rw [h, wants_upd, Men_iff, List.drop_zero]
      simp only [h3, true_and, or_assoc, eq_comm (a := n)]
    · simp only [Tr.ok, nd_ok, and_true, true_and, Int.toNat_natCast, Bool.and_eq_true, Bool.or_eq_true, Bool.not_eq_true', Bool.not_eq_false', Bool.not_not, decide_eq_true_eq, decide_eq_false_iff_not, beq_iff_eq, beq_eq_false_iff_ne, ne_eq, Bool.false_eq_true, Bool.true_eq_false, false_implies, forall_const]
      exact ⟨fun _ => ⟨_, call_CNeeds1 _ _, c⟩, fun h => absurd h3 h⟩
  · obtain ⟨m', h, c⟩ := loop 0 (by omega) m
    refine ⟨m', fun n => ?_, calld_run rfl (runs_by (CNumbers_0_eq e m) ?_)⟩
    · rw [h, Men_iff, List.drop_zero]
      simp only [h3, false_and, false_or]
    · simp only [Tr.ok, nd_ok, and_true, true_and, Int.toNat_natCast, Bool.and_eq_true, Bool.or_eq_true, Bool.not_eq_true', Bool.not_eq_false', Bool.not_not, decide_eq_true_eq, decide_eq_false_iff_not, beq_iff_eq, beq_eq_false_iff_ne, ne_eq, Bool.false_eq_true, Bool.true_eq_false, false_implies, forall_const]
      exact ⟨fun h => absurd h h3, fun _ => c⟩
theorem call_CClone (l : List S60) (hl : l.length * 88 ≤ 140737488355328) : Calld EV X 98 [.sl .n60 l .no] [] (.sl .n60 l (.tok 0 0)) [.vec .n60 0] := by
  refine calld_run rfl (runs_by (CClone_0_eq l) ?_)
  simp only [Tr.ok, nd_ok, and_true, true_and, Int.toNat_natCast, Bool.and_eq_true, Bool.or_eq_true, Bool.not_eq_true', Bool.not_eq_false', Bool.not_not, decide_eq_true_eq, decide_eq_false_iff_not, beq_iff_eq, beq_eq_false_iff_ne, ne_eq, Bool.false_eq_true, Bool.true_eq_false, false_implies, forall_const]
  cases l with
  | nil => simp
  | cons x l => simp at hl ⊢; omega
/-- What a version asks for: an article by number. -/
def asks (a : S62) (n : Int) : Prop := n ∈ a.f7 ∨ ∃ e ∈ a.f6 ++ [a.f8], Men n e
noncomputable def needP (c : S31) (v i : Nat) : Bool := dec (asks (c.f2.getD v d62) (c.f2.getD i d62).f0) || beatsS c (i : Int) (v : Int)
noncomputable def needL (c : S31) (v k : Nat) : List Int := ((List.range k).filter (needP c v)).map Int.ofNat
theorem needL_le (c : S31) (v k : Nat) : (needL c v k).length ≤ k := by
  unfold needL
  rw [List.length_map]
  exact Nat.le_trans (List.length_filter_le _ _) (by simp)
theorem needL_succ (c : S31) (v k : Nat) : needL c v (k + 1) = needL c v k ++ (if needP c v k = true then [(k : Int)] else []) := by
  unfold needL
  rw [List.range_succ, List.filter_append, List.map_append]
  congr 1
  by_cases h : needP c v k = true
  · simp [h]
  · simp [h]
theorem call_CNeeds0 (c : S31) (oc : okC c) (h60 : c.f2.length ≤ 60) (v : Nat) (hv : v < c.f2.length) : Calld EV X 51 [.agg (encT .n31 c), .int .i64 (v : Int)] [] (.sl .n3 (needL c v c.f2.length) .no) [] := by
  have hm := List.getElem_mem hv
  have oa := oc.art _ hm
  have hw := oa.whenB
  have hx := oa.exceptB
  have t15 : ∀ m : MB, (∀ n, wants m n ↔ asks c.f2[v] n) → ∀ i, i ≤ c.f2.length → Runs EV X (CNeeds0_15 (v : Int) (needL c v i) c.f2 (c.f2.length : Int) (i : Int) c m) (.sl .n3 (needL c v c.f2.length) .no) [] := by
    intro m hmw
    refine down c.f2.length (fun i hi hi2 => ?_) (fun i hi ih _ => ?_)
    · have : i = c.f2.length := by omega
      subst this
      refine runs_by (CNeeds0_15_eq _ _ _ _ _ _ _) ?_
      simp only [Tr.ok, nd_ok, and_true, true_and, Int.toNat_natCast, Bool.and_eq_true, Bool.or_eq_true, Bool.not_eq_true', Bool.not_eq_false', Bool.not_not, decide_eq_true_eq, decide_eq_false_iff_not, beq_iff_eq, beq_eq_false_iff_ne, ne_eq, Bool.false_eq_true, Bool.true_eq_false, false_implies, forall_const]
      exact ⟨fun h => by omega, fun _ => trivial⟩
    · refine runs_by (CNeeds0_15_eq _ _ _ _ _ _ _) ?_
      have hln := needL_le c v i
      have ih := ih (by omega)
      rw [needL_succ] at ih
      have hp : needP c v i = (dec (asks c.f2[v] c.f2[i].f0) || beatsS c (i : Int) (v : Int)) := by
        unfold needP; rw [getD_at hv, getD_at hi]
      have hwm := hmw c.f2[i].f0
      unfold wants at hwm
      simp only [Tr.ok, nd_ok, and_true, true_and, Int.toNat_natCast, Bool.and_eq_true, Bool.or_eq_true, Bool.not_eq_true', Bool.not_eq_false', Bool.not_not, decide_eq_true_eq, decide_eq_false_iff_not, beq_iff_eq, beq_eq_false_iff_ne, ne_eq, Bool.false_eq_true, Bool.true_eq_false, false_implies, forall_const, getD_at hi]
      rw [wr (by omega) (by omega)]
      have take : needP c v i = true → Runs EV X (CNeeds0_15 (v : Int) (needL c v i ++ [(i : Int)]) c.f2 (c.f2.length : Int) ((i : Int) + 1) c m) (.sl .n3 (needL c v c.f2.length) .no) [] := fun h => by rw [if_pos h] at ih; exact ih
      have skip : ¬ needP c v i = true → Runs EV X (CNeeds0_15 (v : Int) (needL c v i) c.f2 (c.f2.length : Int) ((i : Int) + 1) c m) (.sl .n3 (needL c v c.f2.length) .no) [] := fun h => by rw [if_neg h, List.append_nil] at ih; exact ih
      have hlen : ((needL c v i).length + [(i : Int)].length) * 8 ≤ 140737488355328 := by simp; omega
      refine ⟨fun _ => ⟨by omega, fun h1 => ⟨(beatsS c (i : Int) (v : Int) : Bool), call_CBeats c oc _ _, fun h2 => ⟨hlen, take ?_⟩, fun h2 => skip ?_⟩, fun h1 => ⟨hlen, take ?_⟩⟩, fun h => by omega⟩
      · have h2 : beatsS c (i : Int) (v : Int) = true := h2
        rw [hp, h2, Bool.or_true]
      · have h2 : beatsS c (i : Int) (v : Int) = false := h2
        rw [hp, h2, dec_false fun h => by rw [hwm.2 h] at h1; cases h1]; decide
      · rw [hp, dec_true (hwm.1 h1), Bool.true_or]
  have t9 : ∀ j, j ≤ (c.f2[v].f6 ++ [c.f2[v].f8]).length → ∀ m : MB, (∀ n, wants m n ↔ n ∈ c.f2[v].f7 ∨ ∃ e ∈ (c.f2[v].f6 ++ [c.f2[v].f8]).take j, Men n e) →
      Runs EV X (CNeeds0_9 (v : Int) (c.f2[v].f6 ++ [c.f2[v].f8]) ((c.f2[v].f6 ++ [c.f2[v].f8]).length : Int) (j : Int) c m) (.sl .n3 (needL c v c.f2.length) .no) [] := by
    have hlen : (c.f2[v].f6 ++ [c.f2[v].f8]).length * 88 ≤ 140737488355328 := by rw [List.length_append, List.length_singleton]; omega
    have hok : ∀ e ∈ c.f2[v].f6 ++ [c.f2[v].f8], okE e := fun e he => by
      rw [List.mem_append, List.mem_singleton] at he
      rcases he with he | rfl
      · exact oa.whens e he
      · exact oa.amount
    have hasks : ∀ n, asks c.f2[v] n ↔ n ∈ c.f2[v].f7 ∨ ∃ e ∈ c.f2[v].f6 ++ [c.f2[v].f8], Men n e := fun n => Iff.rfl
    generalize c.f2[v].f6 ++ [c.f2[v].f8] = L at *
    refine down L.length (fun j hj hj2 m hm => ?_) (fun j hj ih _ m hm => ?_)
    · rw [List.take_of_length_le hj] at hm
      refine runs_by (CNeeds0_9_eq _ _ _ _ _ _) ?_
      simp only [Tr.ok, nd_ok, and_true, true_and, Int.toNat_natCast, Bool.and_eq_true, Bool.or_eq_true, Bool.not_eq_true', Bool.not_eq_false', Bool.not_not, decide_eq_true_eq, decide_eq_false_iff_not, beq_iff_eq, beq_eq_false_iff_ne, ne_eq, Bool.false_eq_true, Bool.true_eq_false, false_implies, forall_const]
      exact ⟨fun h => by omega, fun _ => t15 m (fun n => (hm n).trans (hasks n).symm) 0 (by omega)⟩
    · obtain ⟨m1, h1, c1⟩ := call_CNumbers (X := X) L[j] (hok _ (List.getElem_mem hj)) m
      refine runs_by (CNeeds0_9_eq _ _ _ _ _ _) ?_
      simp only [Tr.ok, nd_ok, and_true, true_and, Int.toNat_natCast, Bool.and_eq_true, Bool.or_eq_true, Bool.not_eq_true', Bool.not_eq_false', Bool.not_not, decide_eq_true_eq, decide_eq_false_iff_not, beq_iff_eq, beq_eq_false_iff_ne, ne_eq, Bool.false_eq_true, Bool.true_eq_false, false_implies, forall_const, getD_at hj]
      rw [wr (by omega) (by omega)]
      refine ⟨fun _ => ⟨by omega, m1, c1, ih (by omega) m1 fun n => ?_⟩, fun h => by omega⟩
      rw [h1, hm, List.take_succ_eq_append_getElem hj]
      simp only [List.mem_append, List.mem_singleton, or_and_right, exists_or, exists_eq_left, or_assoc]
  have t4 : ∀ j, j ≤ c.f2[v].f7.length → ∀ m : MB, (∀ n, wants m n ↔ n ∈ c.f2[v].f7.take j) → Runs EV X (CNeeds0_4 (v : Int) c.f2[v].f7 (c.f2[v].f7.length : Int) (j : Int) c c.f2[v] m) (.sl .n3 (needL c v c.f2.length) .no) [] := by
    refine down c.f2[v].f7.length (fun j hj hj2 m hm => ?_) (fun j hj ih _ m hm => ?_)
    · rw [List.take_of_length_le hj] at hm
      refine runs_by (CNeeds0_4_eq _ _ _ _ _ _ _) ?_
      simp only [Tr.ok, nd_ok, and_true, true_and, Int.toNat_natCast, Bool.and_eq_true, Bool.or_eq_true, Bool.not_eq_true', Bool.not_eq_false', Bool.not_not, decide_eq_true_eq, decide_eq_false_iff_not, beq_iff_eq, beq_eq_false_iff_ne, ne_eq, Bool.false_eq_true, Bool.true_eq_false, false_implies, forall_const, et60_eq]
      refine ⟨fun h => by omega, fun _ => ⟨_, call_CClone _ (by omega), ?_, ?_⟩⟩
      · show (c.f2[v].f6.length + [c.f2[v].f8].length) * 88 ≤ _
        rw [List.length_singleton]; omega
      · exact t9 0 (by omega) m fun n => by rw [hm]; simp
    · refine runs_by (CNeeds0_4_eq _ _ _ _ _ _ _) ?_
      simp only [Tr.ok, nd_ok, and_true, true_and, Int.toNat_natCast, Bool.and_eq_true, Bool.or_eq_true, Bool.not_eq_true', Bool.not_eq_false', Bool.not_not, decide_eq_true_eq, decide_eq_false_iff_not, beq_iff_eq, beq_eq_false_iff_ne, ne_eq, Bool.false_eq_true, Bool.true_eq_false, false_implies, forall_const, getD_at hj]
      rw [wr (by omega) (by omega)]
      refine ⟨fun _ => ⟨by omega, ih (by omega) _ fun n => ?_⟩, fun h => by omega⟩
      rw [wants_upd, hm, List.take_succ_eq_append_getElem hj]
      simp only [List.mem_append, List.mem_singleton]
  refine calld_run rfl (runs_by (CNeeds0_0_eq c v) ?_)
  simp only [Tr.ok, nd_ok, and_true, true_and, Int.toNat_natCast, Bool.and_eq_true, Bool.or_eq_true, Bool.not_eq_true', Bool.not_eq_false', Bool.not_not, decide_eq_true_eq, decide_eq_false_iff_not, beq_iff_eq, beq_eq_false_iff_ne, ne_eq, Bool.false_eq_true, Bool.true_eq_false, false_implies, forall_const, getD_at hv]
  refine ⟨by omega, t4 0 (by omega) [] fun n => ?_⟩
  simp [wants, lookupT]
theorem call_CNeeds (c : S31) (oc : okC c) (hval : validS DC c) (v : Nat) (hv : v < c.f2.length) : Calld EV X 27 [.agg (encT .n31 c), .int .i64 (v : Int)] [] (.sl .n3 (needL c v c.f2.length) .no) [] := by
  have hcv := call_CValid (X := X) c oc
  rw [dec_true hval] at hcv
  refine calld_run rfl (runs_by (CNeeds_0_eq c v) ?_)
  simp only [Tr.ok, nd_ok, and_true, true_and, Int.toNat_natCast, Bool.and_eq_true, Bool.or_eq_true, Bool.not_eq_true', Bool.not_eq_false', Bool.not_not, decide_eq_true_eq, decide_eq_false_iff_not, beq_iff_eq, beq_eq_false_iff_ne, ne_eq, Bool.false_eq_true, Bool.true_eq_false, false_implies, forall_const]
  exact ⟨fun h => ⟨fun h2 => ⟨(true : Bool), hcv, fun h3 => (by cases h3), fun _ => ⟨_, call_CNeeds0 c oc hval.2.2.1 v hv, rfl⟩⟩, fun h2 => absurd hv (by omega)⟩, fun h => by omega⟩
theorem call_CFi (l : List Int) (hl : l.length < 1000000000000000) (m : MB) : ∃ b : Bool, Calld EV X 52 [.sl .n3 l .no, .fn 53 [] [.ptr 0 0]] [.box 89 [.map 1], .map .n3 .n4 m] (.bool b) [.box 89 [.map 1], .map .n3 .n4 m] := by
  have h53 : ∀ n, ∃ b : Bool, Calld EV X 53 [.int .i64 n, .ptr 0 0] [.box 89 [.map 1], .map .n3 .n4 m] (.bool b) [.box 89 [.map 1], .map .n3 .n4 m] := fun n => by
    refine ⟨!(lookupT K.n3 K.n4 EV m n).getD false, calld_run rfl (runs_by (COrder1_0_eq n m) ?_)⟩
    simp only [Tr.ok, nd_ok, and_true, true_and, Int.toNat_natCast, Bool.and_eq_true, Bool.or_eq_true, Bool.not_eq_true', Bool.not_eq_false', Bool.not_not, decide_eq_true_eq, decide_eq_false_iff_not, beq_iff_eq, beq_eq_false_iff_ne, ne_eq, Bool.false_eq_true, Bool.true_eq_false, false_implies, forall_const]
  have loop : ∀ i, i ≤ l.length → ∃ r : Int, Runs EV X (IFi_2 l (l.length : Int) (i : Int) m) (.int .i64 r) [.box 89 [.map 1], .map .n3 .n4 m] := by
    refine down l.length (fun i hi hi2 => ⟨-1, runs_by (IFi_2_eq _ _ _ _) ?_⟩) (fun i hi ih _ => ?_)
    · simp only [Tr.ok, nd_ok, and_true, true_and, Int.toNat_natCast, Bool.and_eq_true, Bool.or_eq_true, Bool.not_eq_true', Bool.not_eq_false', Bool.not_not, decide_eq_true_eq, decide_eq_false_iff_not, beq_iff_eq, beq_eq_false_iff_ne, ne_eq, Bool.false_eq_true, Bool.true_eq_false, false_implies, forall_const]
      exact ⟨fun h => by omega, fun _ => trivial⟩
    · obtain ⟨b, hb⟩ := h53 l[i]
      obtain ⟨r, hr⟩ := ih (by omega)
      refine ⟨if b = true then (i : Int) else r, runs_by (IFi_2_eq _ _ _ _) ?_⟩
      simp only [Tr.ok, nd_ok, and_true, true_and, Int.toNat_natCast, Bool.and_eq_true, Bool.or_eq_true, Bool.not_eq_true', Bool.not_eq_false', Bool.not_not, decide_eq_true_eq, decide_eq_false_iff_not, beq_iff_eq, beq_eq_false_iff_ne, ne_eq, Bool.false_eq_true, Bool.true_eq_false, false_implies, forall_const, getD_at hi]
      rw [wr (by omega) (by omega)]
      refine ⟨fun _ => ⟨by omega, (b, m), hb, fun h => ?_, fun h => ?_⟩, fun h => by omega⟩
      · rw [if_pos (show b = true from h)]; exact ⟨rfl, rfl⟩
      · rw [if_neg (by rw [show b = false from h]; decide)]; exact hr
  obtain ⟨r, hr⟩ := loop 0 (by omega)
  have h2 : Calld EV X 101 [.sl .n3 l .no, .fn 53 [] [.ptr 0 0]] [.box 89 [.map 1], .map .n3 .n4 m] (.int .i64 r) [.box 89 [.map 1], .map .n3 .n4 m] := calld_run rfl (runs_by (IFi_0_eq l m) hr)
  refine ⟨decide (0 ≤ r), calld_run rfl (runs_by (CFi_0_eq l m) ?_)⟩
  simp only [Tr.ok, nd_ok, and_true, true_and, Int.toNat_natCast, Bool.and_eq_true, Bool.or_eq_true, Bool.not_eq_true', Bool.not_eq_false', Bool.not_not, decide_eq_true_eq, decide_eq_false_iff_not, beq_iff_eq, beq_eq_false_iff_ne, ne_eq, Bool.false_eq_true, Bool.true_eq_false, false_implies, forall_const]
  exact ⟨(r, m), h2, rfl, rfl⟩
/-- The order, by what each version needs: it asks for nothing else. -/
theorem runs_order (all : List (List Int)) (h60 : all.length ≤ 60) (hl : ∀ l ∈ all, l.length < 1000000000000000) : ∀ (d : Nat) (out : List Int) (m : MB), out.length ≤ all.length → all.length - out.length = d →
    ∃ (l : List Int) (b : Bool), l.length ≤ 60 ∧ Runs EV X (COrder_11 out all m) (.tup [.sl .n3 l .no, .bool b]) [] := by
  intro d
  induction d with
  | zero =>
    intro out m h1 h2
    refine ⟨out, true, by omega, runs_by (COrder_11_eq _ _ _) ?_⟩
    simp only [Tr.ok, nd_ok, and_true, true_and, Int.toNat_natCast, Bool.and_eq_true, Bool.or_eq_true, Bool.not_eq_true', Bool.not_eq_false', Bool.not_not, decide_eq_true_eq, decide_eq_false_iff_not, beq_iff_eq, beq_eq_false_iff_ne, ne_eq, Bool.false_eq_true, Bool.true_eq_false, false_implies, forall_const]
    exact ⟨fun h => by omega, fun _ => trivial⟩
  | succ d ih =>
    intro out m h1 h2
    have hlen : ∀ n : Int, (out.length + [n].length) * 8 ≤ 140737488355328 := fun n => by simp; omega
    have next : ∀ (m : MB) (n : Int), ∃ (l : List Int) (b : Bool), l.length ≤ 60 ∧ Runs EV X (COrder_11 (out ++ [n]) all m) (.tup [.sl .n3 l .no, .bool b]) [] := fun m n => ih (out ++ [n]) m (by simp; omega) (by simp; omega)
    have loop : ∀ i, i ≤ all.length → ∃ (l : List Int) (b : Bool), l.length ≤ 60 ∧ Runs EV X (COrder_13 out (i : Int) all m) (.tup [.sl .n3 l .no, .bool b]) [] := by
      refine down all.length (fun i hi hi2 => ⟨[], false, by simp, runs_by (COrder_13_eq _ _ _ _) ?_⟩) (fun i hi ih2 _ => ?_)
      · simp only [Tr.ok, nd_ok, and_true, true_and, Int.toNat_natCast, Bool.and_eq_true, Bool.or_eq_true, Bool.not_eq_true', Bool.not_eq_false', Bool.not_not, decide_eq_true_eq, decide_eq_false_iff_not, beq_iff_eq, beq_eq_false_iff_ne, ne_eq, Bool.false_eq_true, Bool.true_eq_false, false_implies, forall_const]
        exact ⟨fun h => by omega, fun _ => ⟨fun _ => trivial, fun h => by omega⟩⟩
      · obtain ⟨l1, b1, e1, r1⟩ := ih2 (by omega)
        obtain ⟨l2, b2, e2, r2⟩ := next (updT K.n3 K.n4 EV m (i : Int) true) (i : Int)
        obtain ⟨b, hb⟩ := call_CFi (X := X) all[i] (hl _ (List.getElem_mem hi)) m
        by_cases hp : (lookupT K.n3 K.n4 EV m (i : Int)).getD false = false ∧ b = false
        · refine ⟨l2, b2, e2, runs_by (COrder_13_eq _ _ _ _) ?_⟩
          simp only [Tr.ok, nd_ok, and_true, true_and, Int.toNat_natCast, Bool.and_eq_true, Bool.or_eq_true, Bool.not_eq_true', Bool.not_eq_false', Bool.not_not, decide_eq_true_eq, decide_eq_false_iff_not, beq_iff_eq, beq_eq_false_iff_ne, ne_eq, Bool.false_eq_true, Bool.true_eq_false, false_implies, forall_const, getD_at hi]
          refine ⟨fun _ => ⟨fun _ => ⟨by omega, (b, m), hb, fun h => ?_, fun h => ⟨fun h => by omega, fun _ => ⟨hlen _, r2⟩⟩⟩, fun h => by rw [hp.1] at h; cases h⟩, fun h => by omega⟩
          rw [hp.2] at h; cases h
        · refine ⟨l1, b1, e1, runs_by (COrder_13_eq _ _ _ _) ?_⟩
          simp only [Tr.ok, nd_ok, and_true, true_and, Int.toNat_natCast, Bool.and_eq_true, Bool.or_eq_true, Bool.not_eq_true', Bool.not_eq_false', Bool.not_not, decide_eq_true_eq, decide_eq_false_iff_not, beq_iff_eq, beq_eq_false_iff_ne, ne_eq, Bool.false_eq_true, Bool.true_eq_false, false_implies, forall_const, getD_at hi]
          rw [wr (by omega) (by omega)]
          exact ⟨fun _ => ⟨fun h => ⟨by omega, (b, m), hb, fun _ => r1, fun h2 => absurd ⟨h, h2⟩ hp⟩, fun _ => r1⟩, fun h => by omega⟩
    obtain ⟨l, b, e, r⟩ := loop 0 (by omega)
    refine ⟨l, b, e, runs_by (COrder_11_eq _ _ _) ?_⟩
    simp only [Tr.ok, nd_ok, and_true, true_and, Int.toNat_natCast, Bool.and_eq_true, Bool.or_eq_true, Bool.not_eq_true', Bool.not_eq_false', Bool.not_not, decide_eq_true_eq, decide_eq_false_iff_not, beq_iff_eq, beq_eq_false_iff_ne, ne_eq, Bool.false_eq_true, Bool.true_eq_false, false_implies, forall_const]
    exact ⟨fun _ => r, fun h => by omega⟩
theorem call_COrder_of (c : S31) (oc : okC c) (hval : validS DC c) {l : List Int} {b : Bool} (h : Runs EV X (COrder_11 [] ((List.range c.f2.length).map fun i => needL c i c.f2.length) []) (.tup [.sl .n3 l .no, .bool b]) []) :
    Calld EV X 18 [.agg (encT .n31 c)] [] (.tup [.sl .n3 l .no, .bool b]) [] := by
  have hcv := call_CValid (X := X) c oc
  rw [dec_true hval] at hcv
  have h60 := hval.2.2.1
  have loop : ∀ i, i ≤ c.f2.length → ∀ L : List (List Int), L.length = c.f2.length → (∀ k < i, L.getD k [] = needL c k c.f2.length) → Runs EV X (COrder_5 (c.f2.length : Int) (i : Int) c L) (.tup [.sl .n3 l .no, .bool b]) [] := by
    refine down c.f2.length (fun i hi hi2 L hL hk => ?_) (fun i hi ih _ L hL hk => ?_)
    · have : L = (List.range c.f2.length).map fun i => needL c i c.f2.length := by
        apply List.ext_getElem
        · simp [hL]
        · intro k h1 h2
          have := hk k (by omega)
          rw [getD_at h1] at this
          simp [this]
      refine runs_by (COrder_5_eq _ _ _ _) ?_
      simp only [Tr.ok, nd_ok, and_true, true_and, Int.toNat_natCast, Bool.and_eq_true, Bool.or_eq_true, Bool.not_eq_true', Bool.not_eq_false', Bool.not_not, decide_eq_true_eq, decide_eq_false_iff_not, beq_iff_eq, beq_eq_false_iff_ne, ne_eq, Bool.false_eq_true, Bool.true_eq_false, false_implies, forall_const]
      rw [this]
      exact ⟨fun h => by omega, fun _ => h⟩
    · refine runs_by (COrder_5_eq _ _ _ _) ?_
      simp only [Tr.ok, nd_ok, and_true, true_and, Int.toNat_natCast, Bool.and_eq_true, Bool.or_eq_true, Bool.not_eq_true', Bool.not_eq_false', Bool.not_not, decide_eq_true_eq, decide_eq_false_iff_not, beq_iff_eq, beq_eq_false_iff_ne, ne_eq, Bool.false_eq_true, Bool.true_eq_false, false_implies, forall_const]
      rw [wr (by omega) (by omega)]
      refine ⟨fun _ => ⟨_, call_CNeeds0 c oc h60 i hi, by omega, ih (by omega) _ (by simpa using hL) fun k hki => ?_⟩, fun h => by omega⟩
      show (L.set i (needL c i c.f2.length)).getD k [] = _
      by_cases e : k = i
      · subst e
        rw [getD_at (by simp; omega)]; simp
      · rw [← hk k (by omega)]
        simp [List.getD, List.getElem?_set, Ne.symm e]
  refine calld_run rfl (runs_by (COrder_0_eq c) ?_)
  simp only [Tr.ok, nd_ok, and_true, true_and, Int.toNat_natCast, Bool.and_eq_true, Bool.or_eq_true, Bool.not_eq_true', Bool.not_eq_false', Bool.not_not, decide_eq_true_eq, decide_eq_false_iff_not, beq_iff_eq, beq_eq_false_iff_ne, ne_eq, Bool.false_eq_true, Bool.true_eq_false, false_implies, forall_const]
  refine ⟨(true : Bool), hcv, fun h => (by cases h), fun _ => ⟨?_, ?_⟩⟩
  · omega
  · have := loop 0 (by omega) (List.replicate c.f2.length ([] : List Int)) (by simp) fun k hk => by omega
    simpa using this
/-- Two codices whose versions need the same have the same order. -/
theorem order_same (c x : S31) (oc : okC c) (ox : okC x) (hc : validS DC c) (hx : validS DC x) (he : x.f2.length = c.f2.length) (hn : ∀ i < c.f2.length, needL x i c.f2.length = needL c i c.f2.length) :
    ∃ (l : List Int) (b : Bool), l.length < 1000000000000000 ∧ Calld EV X 18 [.agg (encT .n31 c)] [] (.tup [.sl .n3 l .no, .bool b]) [] ∧ Calld EV X 18 [.agg (encT .n31 x)] [] (.tup [.sl .n3 l .no, .bool b]) [] := by
  have h60 := hc.2.2.1
  have eall : ((List.range x.f2.length).map fun i => needL x i x.f2.length) = (List.range c.f2.length).map fun i => needL c i c.f2.length := by
    rw [he]
    refine List.map_congr_left fun i hi => hn i (by simpa using hi)
  obtain ⟨l, b, hl, hr⟩ := runs_order (X := X) ((List.range c.f2.length).map fun i => needL c i c.f2.length) (by simpa using h60) (fun l hl => by
    obtain ⟨i, _, rfl⟩ := List.mem_map.1 hl
    have := needL_le c i c.f2.length
    omega) _ [] [] (by simp) rfl
  exact ⟨l, b, by omega, call_COrder_of c oc hc hr, call_COrder_of x ox hx (by rw [eall]; exact hr)⟩
end Go.Proofs.YtnenfgpjedddoaaGreat.AI
