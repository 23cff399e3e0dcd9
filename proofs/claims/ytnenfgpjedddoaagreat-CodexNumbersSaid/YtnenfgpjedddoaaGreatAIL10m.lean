/- CodexNumbers: the run. -/
import Derived.Test.YtnenfgpjedddoaaGreatAIL10l
import Derived.Test.YtnenfgpjedddoaaGreatAIL10d
set_option linter.unusedVariables false
set_option linter.unusedSimpArgs false
namespace Go.Proofs.YtnenfgpjedddoaaGreat.AI
open Go
variable {X : XX}

theorem call_LNum1 (n b : Int) : Calld EV X 38 [.int .i64 n, .ptr 0 0] [.box 73 [.int .u16 b]] (.int .i64 (newN b n)) [.box 73 [.int .u16 b]] := by
  refine calld_run rfl (runs_by (LNum1_0_eq n b) ?_)
  simp only [Tr.ok, nd_ok, and_true, true_and, Int.toNat_natCast, Bool.and_eq_true, Bool.or_eq_true, Bool.not_eq_true', Bool.not_eq_false', Bool.not_not, decide_eq_true_eq, decide_eq_false_iff_not, beq_iff_eq, beq_eq_false_iff_ne, ne_eq, Bool.false_eq_true, Bool.true_eq_false, false_implies, forall_const]
  rfl
theorem call_LRenum (b : Int) : ∀ (e : S60), nodes e ≤ 400 → Calld EV X 39 [.agg (encT .n60 e), .fn 38 [] [.ptr 0 0]] [.box 73 [.int .u16 b]] (.agg (encT .n60 (renE b e))) [.box 73 [.int .u16 b]] := by
  refine indE fun e ih he => ?_
  have hlen : ∀ l : List S60, l.length ≤ nodesL l := fun l => by
    induction l with
    | nil => simp [nodesL]
    | cons k l ihl => have := nodes_eq k; simp only [nodesL, List.length_cons]; omega
  have hl := hlen e.f4
  have hen := nodes_eq e
  have loop : ∀ n : Int, (n = if e.f0 = 3 then newN b e.f1 else e.f1) → ∀ i, i ≤ e.f4.length → Runs EV X (LRenum_6 e.f4 (e.f4.length : Int) (i : Int) b 0 0 [] 0 [] [] e.f0 n e.f2 e.f3 ((e.f4.take i).map (renE b))) (.agg (encT .n60 (renE b e))) [.box 73 [.int .u16 b]] := by
    intro n hn
    refine down e.f4.length (fun i hi hi2 => ?_) (fun i hi ih2 _ => ?_)
    · rw [List.take_of_length_le hi]
      refine runs_by (LRenum_6_eq _ _ _ _ _ _ _ _ _ _ _ _ _ _ _) ?_
      simp only [Tr.ok, nd_ok, and_true, true_and, Int.toNat_natCast, Bool.and_eq_true, Bool.or_eq_true, Bool.not_eq_true', Bool.not_eq_false', Bool.not_not, decide_eq_true_eq, decide_eq_false_iff_not, beq_iff_eq, beq_eq_false_iff_ne, ne_eq, Bool.false_eq_true, Bool.true_eq_false, false_implies, forall_const]
      refine ⟨fun h => by omega, fun _ => ?_⟩
      rw [renE_eq, ← hn]; rfl
    · have hm := List.getElem_mem hi
      have hk := nodesL_kid hm
      have ih2 := ih2 (by omega)
      rw [List.take_succ_eq_append_getElem hi, List.map_append] at ih2
      refine runs_by (LRenum_6_eq _ _ _ _ _ _ _ _ _ _ _ _ _ _ _) ?_
      simp only [Tr.ok, nd_ok, and_true, true_and, Int.toNat_natCast, Bool.and_eq_true, Bool.or_eq_true, Bool.not_eq_true', Bool.not_eq_false', Bool.not_not, decide_eq_true_eq, decide_eq_false_iff_not, beq_iff_eq, beq_eq_false_iff_ne, ne_eq, Bool.false_eq_true, Bool.true_eq_false, false_implies, forall_const, getD_at hi, et60_eq]
      rw [wr (by omega) (by omega)]
      refine ⟨fun _ => ⟨by omega, (renE b e.f4[i], b), ih _ hm (by omega), ?_, ih2⟩, fun h => by omega⟩
      simp; omega
  refine calld_run rfl (runs_by (LRenum_0_eq e b) ?_)
  simp only [Tr.ok, nd_ok, and_true, true_and, Int.toNat_natCast, Bool.and_eq_true, Bool.or_eq_true, Bool.not_eq_true', Bool.not_eq_false', Bool.not_not, decide_eq_true_eq, decide_eq_false_iff_not, beq_iff_eq, beq_eq_false_iff_ne, ne_eq, Bool.false_eq_true, Bool.true_eq_false, false_implies, forall_const]
  refine ⟨fun h => ⟨(newN b e.f1, b), call_LNum1 _ _, ?_⟩, fun h => ?_⟩
  · exact loop (newN b e.f1) (by rw [if_pos h]) 0 (by omega)
  · exact loop e.f1 (by rw [if_neg h]) 0 (by omega)
theorem numbers_runs (hh : Calld EV X 11 [] [] (.bool true) []) (c : S31) (oc : okC c) (b : Int) (hb : inB b) :
    Calld EV X 10 [.agg (encT .n31 c), .int .u16 b] [] (.bool true) [] := by
  have hrv := call_RValid (X := X) c oc
  have main : validS DR c → Runs EV X (LNumbers_8 true c.f2 (c.f2.length : Int) 0 c b c.f0 c.f1 []) (.bool true) [] := by
    intro hr
    have hv := valid_sub hr
    have h60 := hv.2.2.1
    have ox := okC_ren b oc
    have hx := valid_ren hb hv
    have hlx : (renC b c).f2.length = c.f2.length := by simp [renC]
    have t27 : ∀ i, i ≤ c.f2.length → Runs EV X (LNumbers_27 true (c.f2.length : Int) (i : Int) c c.f0 c.f1 (c.f2.map (renA b))) (.bool true) [] := by
      refine down c.f2.length (fun i hi hi2 => ?_) (fun i hi ih _ => ?_)
      · obtain ⟨l, ok, hl, c1, c2⟩ := order_same (X := X) c (renC b c) oc ox hv hx hlx fun i hi => needL_ren hb hv hi
        have hs := call_SameInts (X := X) l l hl
        rw [dec_true rfl] at hs
        refine runs_by (LNumbers_27_eq _ _ _ _ _ _ _) ?_
        simp only [Tr.ok, nd_ok, and_true, true_and, Int.toNat_natCast, Bool.and_eq_true, Bool.or_eq_true, Bool.not_eq_true', Bool.not_eq_false', Bool.not_not, decide_eq_true_eq, decide_eq_false_iff_not, beq_iff_eq, beq_eq_false_iff_ne, ne_eq, Bool.false_eq_true, Bool.true_eq_false, false_implies, forall_const]
        exact ⟨fun h => by omega, fun _ => ⟨(l, ok), c1, (l, ok), c2, fun _ => ⟨(true : Bool), hs, rfl⟩, fun h => absurd rfl h⟩⟩
      · have t32 : ∀ k, k ≤ c.f2.length → Runs EV X (LNumbers_32 true (i : Int) (c.f2.length : Int) (i : Int) (c.f2.length : Int) (k : Int) c c.f0 c.f1 (c.f2.map (renA b))) (.bool true) [] := by
          refine down c.f2.length (fun k hk hk2 => ?_) (fun k hk ihk _ => ?_)
          · refine runs_by (LNumbers_32_eq _ _ _ _ _ _ _ _ _ _) ?_
            simp only [Tr.ok, nd_ok, and_true, true_and, Int.toNat_natCast, Bool.and_eq_true, Bool.or_eq_true, Bool.not_eq_true', Bool.not_eq_false', Bool.not_not, decide_eq_true_eq, decide_eq_false_iff_not, beq_iff_eq, beq_eq_false_iff_ne, ne_eq, Bool.false_eq_true, Bool.true_eq_false, false_implies, forall_const]
            rw [wr (x := (i : Int) + 1) (by omega) (by omega)]
            exact ⟨fun h => by omega, fun _ => ih (by omega)⟩
          · have c1 := call_CBeats (X := X) c oc (i : Int) (k : Int)
            have c2 := call_CBeats (X := X) (renC b c) ox (i : Int) (k : Int)
            rw [beats_ren hb hv] at c2
            refine runs_by (LNumbers_32_eq _ _ _ _ _ _ _ _ _ _) ?_
            simp only [Tr.ok, nd_ok, and_true, true_and, Int.toNat_natCast, Bool.and_eq_true, Bool.or_eq_true, Bool.not_eq_true', Bool.not_eq_false', Bool.not_not, decide_eq_true_eq, decide_eq_false_iff_not, beq_iff_eq, beq_eq_false_iff_ne, ne_eq, Bool.false_eq_true, Bool.true_eq_false, false_implies, forall_const]
            rw [wr (x := (k : Int) + 1) (by omega) (by omega)]
            exact ⟨fun _ => ⟨(beatsS c (i : Int) (k : Int) : Bool), c1, (beatsS c (i : Int) (k : Int) : Bool), c2, fun h => (by rw [beq_self_eq_true] at h; cases h), fun _ => ihk (by omega)⟩, fun h => by omega⟩
        have c1 := call_CNeeds (X := X) c oc hv i hi
        have c2 := call_CNeeds (X := X) (renC b c) ox hx i (by omega)
        rw [hlx, needL_ren hb hv hi] at c2
        have hs := call_SameInts (X := X) (needL c i c.f2.length) (needL c i c.f2.length) (by have := needL_le c i c.f2.length; omega)
        rw [dec_true rfl] at hs
        refine runs_by (LNumbers_27_eq _ _ _ _ _ _ _) ?_
        simp only [Tr.ok, nd_ok, and_true, true_and, Int.toNat_natCast, Bool.and_eq_true, Bool.or_eq_true, Bool.not_eq_true', Bool.not_eq_false', Bool.not_not, decide_eq_true_eq, decide_eq_false_iff_not, beq_iff_eq, beq_eq_false_iff_ne, ne_eq, Bool.false_eq_true, Bool.true_eq_false, false_implies, forall_const]
        exact ⟨fun _ => ⟨_, c1, _, c2, (true : Bool), hs, fun h => (by cases h), fun _ => t32 0 (by omega)⟩, fun h => by omega⟩
    have t8 : ∀ i, i ≤ c.f2.length → Runs EV X (LNumbers_8 true c.f2 (c.f2.length : Int) (i : Int) c b c.f0 c.f1 ((c.f2.take i).map (renA b))) (.bool true) [] := by
      refine down c.f2.length (fun i hi hi2 => ?_) (fun i hi ih _ => ?_)
      · rw [List.take_of_length_le hi]
        have hcv := call_CValid (X := X) (renC b c) ox
        rw [dec_true hx] at hcv
        refine runs_by (LNumbers_8_eq _ _ _ _ _ _ _ _ _) ?_
        simp only [Tr.ok, nd_ok, and_true, true_and, Int.toNat_natCast, Bool.and_eq_true, Bool.or_eq_true, Bool.not_eq_true', Bool.not_eq_false', Bool.not_not, decide_eq_true_eq, decide_eq_false_iff_not, beq_iff_eq, beq_eq_false_iff_ne, ne_eq, Bool.false_eq_true, Bool.true_eq_false, false_implies, forall_const]
        exact ⟨fun h => by omega, fun _ => ⟨(true : Bool), hcv, fun h => (by cases h), fun _ => t27 0 (by omega)⟩⟩
      · have hm := List.getElem_mem hi
        have oa := oc.art _ hm
        have hwb := oa.whenB
        have heb := oa.exceptB
        have hfit := (hv.2.2.2 _ hm).2.2
        have ih := ih (by omega)
        rw [List.take_succ_eq_append_getElem hi, List.map_append] at ih
        have hacc : ((c.f2.take i).map (renA b)).length ≤ i := by simp; omega
        generalize (c.f2.take i).map (renA b) = acc at *
        refine runs_by (LNumbers_8_eq _ _ _ _ _ _ _ _ _) ?_
        simp only [Tr.ok, nd_ok, and_true, true_and, Int.toNat_natCast, Bool.and_eq_true, Bool.or_eq_true, Bool.not_eq_true', Bool.not_eq_false', Bool.not_not, decide_eq_true_eq, decide_eq_false_iff_not, beq_iff_eq, beq_eq_false_iff_ne, ne_eq, Bool.false_eq_true, Bool.true_eq_false, false_implies, forall_const, getD_at hi]
        generalize c.f2[i] = a at *
        have t18 : ∀ j, j ≤ a.f7.length → Runs EV X (LNumbers_18 true c.f2 (c.f2.length : Int) (i : Int) a.f7 (a.f7.length : Int) (j : Int) c b c.f0 c.f1 acc (newN b a.f0) a.f1 a.f2 a.f3 a.f4 a.f5 (a.f6.map (renE b)) ((a.f7.take j).map (newN b)) (renE b a.f8)) (.bool true) [] := by
          refine down a.f7.length (fun j hj hj2 => ?_) (fun j hj ihj _ => ?_)
          · rw [List.take_of_length_le hj]
            refine runs_by (LNumbers_18_eq _ _ _ _ _ _ _ _ _ _ _ _ _ _ _ _ _ _ _ _ _) ?_
            simp only [Tr.ok, nd_ok, and_true, true_and, Int.toNat_natCast, Bool.and_eq_true, Bool.or_eq_true, Bool.not_eq_true', Bool.not_eq_false', Bool.not_not, decide_eq_true_eq, decide_eq_false_iff_not, beq_iff_eq, beq_eq_false_iff_ne, ne_eq, Bool.false_eq_true, Bool.true_eq_false, false_implies, forall_const, et60_eq]
            rw [wr (x := (i : Int) + 1) (by omega) (by omega)]
            exact ⟨fun h => by omega, fun _ => ⟨by simp; omega, ih⟩⟩
          · have ihj := ihj (by omega)
            rw [List.take_succ_eq_append_getElem hj, List.map_append] at ihj
            refine runs_by (LNumbers_18_eq _ _ _ _ _ _ _ _ _ _ _ _ _ _ _ _ _ _ _ _ _) ?_
            simp only [Tr.ok, nd_ok, and_true, true_and, Int.toNat_natCast, Bool.and_eq_true, Bool.or_eq_true, Bool.not_eq_true', Bool.not_eq_false', Bool.not_not, decide_eq_true_eq, decide_eq_false_iff_not, beq_iff_eq, beq_eq_false_iff_ne, ne_eq, Bool.false_eq_true, Bool.true_eq_false, false_implies, forall_const, getD_at hj, et60_eq]
            rw [wr (x := (j : Int) + 1) (by omega) (by omega)]
            exact ⟨fun _ => ⟨by omega, (newN b a.f7[j], b), call_LNum1 _ _, by simp; omega, ihj⟩, fun h => by omega⟩
        have t13 : ∀ j, j ≤ a.f6.length → Runs EV X (LNumbers_13 true c.f2 (c.f2.length : Int) (i : Int) a.f6 (a.f6.length : Int) (j : Int) c b c.f0 c.f1 acc a (newN b a.f0) a.f1 a.f2 a.f3 a.f4 a.f5 ((a.f6.take j).map (renE b)) [] (renE b a.f8)) (.bool true) [] := by
          refine down a.f6.length (fun j hj hj2 => ?_) (fun j hj ihj _ => ?_)
          · rw [List.take_of_length_le hj]
            refine runs_by (LNumbers_13_eq _ _ _ _ _ _ _ _ _ _ _ _ _ _ _ _ _ _ _ _ _ _) ?_
            simp only [Tr.ok, nd_ok, and_true, true_and, Int.toNat_natCast, Bool.and_eq_true, Bool.or_eq_true, Bool.not_eq_true', Bool.not_eq_false', Bool.not_not, decide_eq_true_eq, decide_eq_false_iff_not, beq_iff_eq, beq_eq_false_iff_ne, ne_eq, Bool.false_eq_true, Bool.true_eq_false, false_implies, forall_const]
            exact ⟨fun h => by omega, fun _ => t18 0 (by omega)⟩
          · have ihj := ihj (by omega)
            rw [List.take_succ_eq_append_getElem hj, List.map_append] at ihj
            have hmj := List.getElem_mem hj
            refine runs_by (LNumbers_13_eq _ _ _ _ _ _ _ _ _ _ _ _ _ _ _ _ _ _ _ _ _ _) ?_
            simp only [Tr.ok, nd_ok, and_true, true_and, Int.toNat_natCast, Bool.and_eq_true, Bool.or_eq_true, Bool.not_eq_true', Bool.not_eq_false', Bool.not_not, decide_eq_true_eq, decide_eq_false_iff_not, beq_iff_eq, beq_eq_false_iff_ne, ne_eq, Bool.false_eq_true, Bool.true_eq_false, false_implies, forall_const, getD_at hj, et60_eq]
            rw [wr (x := (j : Int) + 1) (by omega) (by omega)]
            exact ⟨fun _ => ⟨by omega, (renE b a.f6[j], b), call_LRenum b _ ((hfit.2.2.2.2.2.2.1 _ hmj).2.1.1), by simp; omega, ihj⟩, fun h => by omega⟩
        exact ⟨fun _ => ⟨by omega, (newN b a.f0, b), call_LNum1 _ _, (renE b a.f8, b), call_LRenum b _ hfit.2.2.2.2.2.2.2.2.1.1, t13 0 (by omega)⟩, fun h => by omega⟩
    exact t8 0 (by omega)
  refine calld_run rfl (runs_by (LNumbers_0_eq c b) ?_)
  simp only [Tr.ok, nd_ok, and_true, true_and, Int.toNat_natCast, Bool.and_eq_true, Bool.or_eq_true, Bool.not_eq_true', Bool.not_eq_false', Bool.not_not, decide_eq_true_eq, decide_eq_false_iff_not, beq_iff_eq, beq_eq_false_iff_ne, ne_eq, Bool.false_eq_true, Bool.true_eq_false, false_implies, forall_const]
  refine ⟨(true : Bool), hh, (fewS c : Bool), call_small c oc, fun _ => ⟨(dec (validS DR c) : Bool), hrv, fun _ => rfl, fun h => main (dec_iff.1 (by simpa using h))⟩, fun _ => rfl⟩
end Go.Proofs.YtnenfgpjedddoaaGreat.AI
