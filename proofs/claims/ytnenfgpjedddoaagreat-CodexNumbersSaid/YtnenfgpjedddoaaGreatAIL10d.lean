/- Layer 10: the law on priority. -/
import Derived.Test.YtnenfgpjedddoaaGreatAIL10c
set_option linter.unusedVariables false
set_option linter.unusedSimpArgs false
namespace Go.Proofs.YtnenfgpjedddoaaGreat.AI
open Go
variable {X : XX}

theorem beatsA_self (x : S62) : beatsA x x = false := by simp [beatsA]
theorem beatsS_self (c : S31) (a : Int) : beatsS c a a = false := by
  unfold beatsS
  split
  · exact beatsA_self _
  · rfl
theorem priority_runs (hh : Calld EV X 11 [] [] (.bool true) []) (c : S31) (oc : okC c) (a b : Int) :
    Calld EV X 6 [.agg (encT .n31 c), .int .i64 a, .int .i64 b] [] (.bool true) [] := by
  refine calld_run rfl (runs_by (LPriority_0_eq c a b) ?_)
  simp only [Tr.ok, nd_ok, and_true, true_and, Int.toNat_natCast, Bool.and_eq_true, Bool.or_eq_true, Bool.not_eq_true', Bool.not_eq_false', Bool.not_not, decide_eq_true_eq, decide_eq_false_iff_not, beq_iff_eq, beq_eq_false_iff_ne, ne_eq, Bool.false_eq_true, Bool.true_eq_false, false_implies, forall_const]
  refine ⟨(true : Bool), hh, (fewS c : Bool), call_small c oc, fun h => rfl, fun h => ⟨(beatsS c a b : Bool), call_CBeats c oc a b, (beatsS c b a : Bool), call_CBeats c oc b a, (beatsS c a a : Bool), call_CBeats c oc a a, ?_⟩⟩
  rw [beatsS_self]
  by_cases hr : 0 ≤ a ∧ 0 ≤ b ∧ a < c.f2.length ∧ b < c.f2.length
  · have e1 : beatsS c a b = beatsA (c.f2.getD a.toNat d62) (c.f2.getD b.toNat d62) := if_pos hr
    have e2 : beatsS c b a = beatsA (c.f2.getD b.toNat d62) (c.f2.getD a.toNat d62) := if_pos ⟨hr.2.1, hr.1, hr.2.2.2, hr.2.2.1⟩
    rw [e1, e2]
    have oa := at_ok oc hr.1 hr.2.2.1
    have ob := at_ok oc hr.2.1 hr.2.2.2
    clear e1 e2
    generalize c.f2.getD a.toNat d62 = x at *
    generalize c.f2.getD b.toNat d62 = y at *
    obtain ⟨r1, r2, r3, r4⟩ := hr
    simp only [Int.not_lt.2 r1, Int.not_lt.2 r2, Int.not_le.2 r3, Int.not_le.2 r4, r1, r2, r3, r4, false_implies, true_implies, and_true, true_and, not_true_eq_false, not_false_eq_true, forall_const, Bool.not_false, Bool.not_true, reduceCtorEq, V.bool.injEq]
    by_cases l1 : x.f1 = y.f1
    · by_cases l2 : x.f0 = y.f0
      · simp [beatsA, l1, l2]
      · by_cases l3 : x.f2 = y.f2
        · have ex : beatsA x y = (if subE x.f6 y.f6 = subE y.f6 x.f6 then decide (y.f5 < x.f5) else subE x.f6 y.f6) := by simp [beatsA, l1, l2, l3]
          have ey : beatsA y x = (if subE y.f6 x.f6 = subE x.f6 y.f6 then decide (x.f5 < y.f5) else subE y.f6 x.f6) := by simp [beatsA, l1, Ne.symm l2, l3]
          simp only [l1, l2, l3, false_implies, true_implies, and_true, true_and, not_true_eq_false, not_false_eq_true, forall_const]
          have c1 := call_LContains (X := X) x.f6 y.f6 ob.okWhen oa.when
          have c2 := call_LContains (X := X) y.f6 x.f6 oa.okWhen ob.when
          rw [ex, ey]
          refine ⟨fun h1 => ⟨fun h2 => ?_, fun h2 => ⟨(subE x.f6 y.f6 : Bool), c1, (subE y.f6 x.f6 : Bool), c2, ?_⟩⟩, fun h1 => ⟨(subE x.f6 y.f6 : Bool), c1, (subE y.f6 x.f6 : Bool), c2, ?_⟩⟩
          all_goals
            clear c1 c2 ex ey
            generalize subE x.f6 y.f6 = p at *
            generalize subE y.f6 x.f6 = q at *
            cases p <;> cases q <;> simp_all
          all_goals omega
        · simp [beatsA, l1, l2, Ne.symm l2, l3, Ne.symm l3]
          omega
    · simp [beatsA, l1, Ne.symm l1]
  · have e1 : beatsS c a b = false := if_neg hr
    have e2 : beatsS c b a = false := if_neg fun h => hr ⟨h.2.1, h.1, h.2.2.2, h.2.2.1⟩
    rw [e1, e2]
    simp only [Bool.not_false, Bool.not_true, Bool.false_eq_true, Bool.true_eq_false, reduceCtorEq, false_implies, forall_const, and_true, true_and]
    exact ⟨fun h1 => ⟨fun h2 => ⟨fun h3 => ⟨fun _ => trivial, fun h4 => absurd (by omega) hr⟩, fun _ => trivial⟩, fun _ => trivial⟩, fun _ => trivial⟩
end Go.Proofs.YtnenfgpjedddoaaGreat.AI
