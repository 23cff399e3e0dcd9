/- Written by a program of this session (hprint.py) and by hand: contracts of the functions that the laws reach, and the row of a law. -/
import Derived.Test.YtpgghakjbghagaaHpx0
import Derived.Test.YtpgghakjbghagaaHpx4
import Derived.Test.YtpgghakjbghagaaHpx5
namespace Go.Proofs.Ytpgghakjbghagaa.Hp
open Go.RowKit Go.Proofs.Ytpgghakjbghagaa.HWords Go.Proofs.YtpgghakjbghagaaW.PrintWords Go.Proofs.YtpgghakjbghagaaW.PrintLast Go.Proofs.YtpgghakjbghagaaW.PrintMore
attribute [local go_sem] max2_int min2_int max_two min_two max_three min_three max_four min_four   -- for this text's walks alone
set_option linter.unusedVariables false
set_option linter.unusedSimpArgs false

/-! ### wageofficelaw41_ReclaimSchedules: function 7 -/
mutual
def wageofficelaw41_ReclaimSchedules.l0 : Nat → Int → Int → List Int → Int → Bool → List Int → Int → Option (Bool)
  | 0, _, _, _, _, _, _, _ => none
  | k + 1, x0, x1, x2, x3, x9, x10, x11 => if x11 < (x2.length : Int) then (wageofficelaw41_ReclaimSchedules.j1 k x0 x1 x2 x3 x9 x10 x11 (decide (x11 < 40))) else (wageofficelaw41_ReclaimSchedules.j1 k x0 x1 x2 x3 x9 x10 x11 false)
def wageofficelaw41_ReclaimSchedules.j1 : Nat → Int → Int → List Int → Int → Bool → List Int → Int → Bool → Option (Bool)
  | 0, _, _, _, _, _, _, _, _ => none
  | k + 1, x0, x1, x2, x3, x9, x10, x11, x40 => if x40 = true then (if 0 ≤ x11 then (if x11 < (x2.length : Int) then ((wageofficelaw41_pick.f (rd x2 x11) 2000001).bind fun t311 => (if x10.length < 17592186044416 then (wageofficelaw41_ReclaimSchedules.l0 k x0 x1 x2 x3 x9 (x10 ++ [wrap64 (t311 - 1000000)]) (wrap64 (x11 + 1))) else (none))) else (none)) else (none)) else ((wageofficelaw41_pick.f x0 5000000).bind fun t315 => ((wageofficelaw41_pick.f x1 1159).bind fun t316 => ((reclaim_Schedule.f k t315 t316 x10).bind fun bt317 => (wageofficelaw41_ReclaimSchedules.l1 k x3 x9 x10 t315 t316 bt317.1 bt317.2.1 bt317.2.2 bt317.2.1 (wrap64 (t316 - 1)) 0 0))))
def wageofficelaw41_ReclaimSchedules.l1 : Nat → Int → Bool → List Int → Int → Int → List (S41) → Int → Int → Int → Int → Int → Int → Option (Bool)
  | 0, _, _, _, _, _, _, _, _, _, _, _, _ => none
  | k + 1, x3, x9, x10, x12, x13, x14, x15, x16, x17, x18, x19, x20 => if x20 < (x10.length : Int) then (if 0 ≤ x20 then (wageofficelaw41_ReclaimSchedules.l1 k x3 x9 x10 x12 x13 x14 x15 x16 x17 x18 (wrap64 (x19 + (wrap64 ((mx (rd x10 x20) 0) / 4)))) (wrap64 (x20 + 1))) else (none)) else (wageofficelaw41_ReclaimSchedules.l2 k x3 x9 x10 x12 x13 x14 x15 x16 x17 x18 x19 0)
def wageofficelaw41_ReclaimSchedules.l2 : Nat → Int → Bool → List Int → Int → Int → List (S41) → Int → Int → Int → Int → Int → Int → Option (Bool)
  | 0, _, _, _, _, _, _, _, _, _, _, _, _ => none
  | k + 1, x3, x9, x10, x12, x13, x14, x15, x16, x17, x18, x19, x21 => if x21 < (x14.length : Int) then (if 0 ≤ x21 then (if (wrap64 (((rd_T41 x14 x21).f0) - x13)) < 0 then (wageofficelaw41_ReclaimSchedules.j4 k x3 x9 x10 x12 x13 x14 x15 x16 x17 x18 x19 x21 (wrap64 (((rd_T41 x14 x21).f0) - x13)) true) else (wageofficelaw41_ReclaimSchedules.j4 k x3 x9 x10 x12 x13 x14 x15 x16 x17 x18 x19 x21 (wrap64 (((rd_T41 x14 x21).f0) - x13)) (decide ((wrap64 (((rd_T41 x14 x21).f0) - x13)) ≥ (x10.length : Int))))) else (none)) else (if x9 = true then (if x16 = 0 then (if x17 = x12 then (wageofficelaw41_ReclaimSchedules.j5 k x3 (x15 == (mx 0 (wrap64 (x12 - x19)))) x10 x12 x13 x14 x15) else (none)) else (none)) else (none))
def wageofficelaw41_ReclaimSchedules.j4 : Nat → Int → Bool → List Int → Int → Int → List (S41) → Int → Int → Int → Int → Int → Int → Int → Bool → Option (Bool)
  | 0, _, _, _, _, _, _, _, _, _, _, _, _, _, _ => none
  | k + 1, x3, x9, x10, x12, x13, x14, x15, x16, x17, x18, x19, x21, x22, x101 => if x101 = true then (none) else (if x9 = true then (if 0 ≤ x21 then (if x21 < (x14.length : Int) then (if ((rd_T41 x14 x21).f0) > x18 then (if ((rd_T41 x14 x21).f1) > 0 then (if 0 ≤ x22 then (if x22 < (x10.length : Int) then (wageofficelaw41_ReclaimSchedules.l2 k x3 (decide (((rd_T41 x14 x21).f1) ≤ (wrap64 (Int.tdiv (rd x10 x22) 4)))) x10 x12 x13 x14 x15 x16 (wrap64 (x17 + ((rd_T41 x14 x21).f1))) ((rd_T41 x14 x21).f0) x19 (wrap64 (x21 + 1))) else (none)) else (none)) else (none)) else (none)) else (none)) else (none)) else (none))
def wageofficelaw41_ReclaimSchedules.j5 : Nat → Int → Bool → List Int → Int → Int → List (S41) → Int → Option (Bool)
  | 0, _, _, _, _, _, _, _ => none
  | k + 1, x3, x9, x10, x12, x13, x14, x15 => (wageofficelaw41_pick.f x3 (wrap64 ((x10.length : Int) + 1))).bind fun t336 => (if 0 ≤ t336 then (if t336 ≤ (x10.length : Int) then ((reclaim_Schedule.f k x12 x13 (x10.take (t336 : Int).toNat)).bind fun bt341 => ((reclaim_Schedule.f k bt341.2.1 (wrap64 (x13 + t336)) (x10.drop (t336 : Int).toNat)).bind fun bt350 => (if 40 ≤ 17592186044416 then ((some (([] : List (S41)) : List (S41))).bind fun y355 => (if y355.length + bt341.1.length < 8796093022208 then ((some (y355 ++ bt341.1 : List (S41))).bind fun y358 => (if y358.length + bt350.1.length < 8796093022208 then (if x9 = true then (if bt341.2.2 = 0 then (if bt350.2.2 = 0 then (if bt350.2.1 = x15 then ((wageofficeref41_SamePlan.f k (y358 ++ bt350.1) x14).bind fun t364 => (some t364)) else (none)) else (none)) else (none)) else (none)) else (none))) else (none))) else (none)))) else (none)) else (none))
end
def wageofficelaw41_ReclaimSchedules.f (k : Nat) (a0 : Int) (a1 : Int) (l2 : List Int) (a3 : Int) : Option (Bool) := (wageofficelaw41_head.f k).bind fun t306 => (if 40 ≤ 35184372088832 then (wageofficelaw41_ReclaimSchedules.l0 k a0 a1 l2 a3 t306 (([] : List Int)) 0) else (none))
theorem wageofficelaw41_ReclaimSchedules.mono_l : ∀ k, (∀ y0 y1 y2 y3 y4 y5 y6, LeO (wageofficelaw41_ReclaimSchedules.l0 k y0 y1 y2 y3 y4 y5 y6) (wageofficelaw41_ReclaimSchedules.l0 (k + 1) y0 y1 y2 y3 y4 y5 y6)) ∧ (∀ y0 y1 y2 y3 y4 y5 y6 y7, LeO (wageofficelaw41_ReclaimSchedules.j1 k y0 y1 y2 y3 y4 y5 y6 y7) (wageofficelaw41_ReclaimSchedules.j1 (k + 1) y0 y1 y2 y3 y4 y5 y6 y7)) ∧ (∀ y0 y1 y2 y3 y4 y5 y6 y7 y8 y9 y10 y11, LeO (wageofficelaw41_ReclaimSchedules.l1 k y0 y1 y2 y3 y4 y5 y6 y7 y8 y9 y10 y11) (wageofficelaw41_ReclaimSchedules.l1 (k + 1) y0 y1 y2 y3 y4 y5 y6 y7 y8 y9 y10 y11)) ∧ (∀ y0 y1 y2 y3 y4 y5 y6 y7 y8 y9 y10 y11, LeO (wageofficelaw41_ReclaimSchedules.l2 k y0 y1 y2 y3 y4 y5 y6 y7 y8 y9 y10 y11) (wageofficelaw41_ReclaimSchedules.l2 (k + 1) y0 y1 y2 y3 y4 y5 y6 y7 y8 y9 y10 y11)) ∧ (∀ y0 y1 y2 y3 y4 y5 y6 y7 y8 y9 y10 y11 y12 y13, LeO (wageofficelaw41_ReclaimSchedules.j4 k y0 y1 y2 y3 y4 y5 y6 y7 y8 y9 y10 y11 y12 y13) (wageofficelaw41_ReclaimSchedules.j4 (k + 1) y0 y1 y2 y3 y4 y5 y6 y7 y8 y9 y10 y11 y12 y13)) ∧ (∀ y0 y1 y2 y3 y4 y5 y6, LeO (wageofficelaw41_ReclaimSchedules.j5 k y0 y1 y2 y3 y4 y5 y6) (wageofficelaw41_ReclaimSchedules.j5 (k + 1) y0 y1 y2 y3 y4 y5 y6))
  | 0 => ⟨fun _ _ _ _ _ _ _ r h => by simp [wageofficelaw41_ReclaimSchedules.l0] at h, fun _ _ _ _ _ _ _ _ r h => by simp [wageofficelaw41_ReclaimSchedules.j1] at h, fun _ _ _ _ _ _ _ _ _ _ _ _ r h => by simp [wageofficelaw41_ReclaimSchedules.l1] at h, fun _ _ _ _ _ _ _ _ _ _ _ _ r h => by simp [wageofficelaw41_ReclaimSchedules.l2] at h, fun _ _ _ _ _ _ _ _ _ _ _ _ _ _ r h => by simp [wageofficelaw41_ReclaimSchedules.j4] at h, fun _ _ _ _ _ _ _ r h => by simp [wageofficelaw41_ReclaimSchedules.j5] at h⟩
  | k + 1 => by
    obtain ⟨ih0, ih1, ih2, ih3, ih4, ih5⟩ := wageofficelaw41_ReclaimSchedules.mono_l k
    refine ⟨?_, ?_, ?_, ?_, ?_, ?_⟩
    · intro y0 y1 y2 y3 y4 y5 y6
      unfold wageofficelaw41_ReclaimSchedules.l0
      repeat' first
      | (with_reducible exact ih0 _ _ _ _ _ _ _)
      | (with_reducible exact ih1 _ _ _ _ _ _ _ _)
      | (with_reducible exact ih2 _ _ _ _ _ _ _ _ _ _ _ _)
      | (with_reducible exact ih3 _ _ _ _ _ _ _ _ _ _ _ _)
      | (with_reducible exact ih4 _ _ _ _ _ _ _ _ _ _ _ _ _ _)
      | (with_reducible exact ih5 _ _ _ _ _ _ _)
      | (with_reducible exact reclaim_Schedule.mono _ _ _ _)
      | (with_reducible exact wageofficelaw41_head.mono _)
      | (with_reducible exact wageofficeref41_SamePlan.mono _ _ _)
      | (with_reducible exact LeO.refl _)
      | (with_reducible exact LeO.none _)
      | (with_reducible refine LeO.ite ?_ ?_)
      | (with_reducible refine LeO.bind ?_ (fun _ => ?_))
      | exact ih0 _ _ _ _ _ _ _
      | exact ih1 _ _ _ _ _ _ _ _
      | exact ih2 _ _ _ _ _ _ _ _ _ _ _ _
      | exact ih3 _ _ _ _ _ _ _ _ _ _ _ _
      | exact ih4 _ _ _ _ _ _ _ _ _ _ _ _ _ _
      | exact ih5 _ _ _ _ _ _ _
      | exact reclaim_Schedule.mono _ _ _ _
      | exact wageofficelaw41_head.mono _
      | exact wageofficeref41_SamePlan.mono _ _ _
      | exact LeO.none _
      | refine LeO.ite ?_ ?_
      | refine LeO.bind ?_ (fun _ => ?_)
    · intro y0 y1 y2 y3 y4 y5 y6 y7
      unfold wageofficelaw41_ReclaimSchedules.j1
      repeat' first
      | (with_reducible exact ih0 _ _ _ _ _ _ _)
      | (with_reducible exact ih1 _ _ _ _ _ _ _ _)
      | (with_reducible exact ih2 _ _ _ _ _ _ _ _ _ _ _ _)
      | (with_reducible exact ih3 _ _ _ _ _ _ _ _ _ _ _ _)
      | (with_reducible exact ih4 _ _ _ _ _ _ _ _ _ _ _ _ _ _)
      | (with_reducible exact ih5 _ _ _ _ _ _ _)
      | (with_reducible exact reclaim_Schedule.mono _ _ _ _)
      | (with_reducible exact wageofficelaw41_head.mono _)
      | (with_reducible exact wageofficeref41_SamePlan.mono _ _ _)
      | (with_reducible exact LeO.refl _)
      | (with_reducible exact LeO.none _)
      | (with_reducible refine LeO.ite ?_ ?_)
      | (with_reducible refine LeO.bind ?_ (fun _ => ?_))
      | exact ih0 _ _ _ _ _ _ _
      | exact ih1 _ _ _ _ _ _ _ _
      | exact ih2 _ _ _ _ _ _ _ _ _ _ _ _
      | exact ih3 _ _ _ _ _ _ _ _ _ _ _ _
      | exact ih4 _ _ _ _ _ _ _ _ _ _ _ _ _ _
      | exact ih5 _ _ _ _ _ _ _
      | exact reclaim_Schedule.mono _ _ _ _
      | exact wageofficelaw41_head.mono _
      | exact wageofficeref41_SamePlan.mono _ _ _
      | exact LeO.none _
      | refine LeO.ite ?_ ?_
      | refine LeO.bind ?_ (fun _ => ?_)
    · intro y0 y1 y2 y3 y4 y5 y6 y7 y8 y9 y10 y11
      unfold wageofficelaw41_ReclaimSchedules.l1
      repeat' first
      | (with_reducible exact ih0 _ _ _ _ _ _ _)
      | (with_reducible exact ih1 _ _ _ _ _ _ _ _)
      | (with_reducible exact ih2 _ _ _ _ _ _ _ _ _ _ _ _)
      | (with_reducible exact ih3 _ _ _ _ _ _ _ _ _ _ _ _)
      | (with_reducible exact ih4 _ _ _ _ _ _ _ _ _ _ _ _ _ _)
      | (with_reducible exact ih5 _ _ _ _ _ _ _)
      | (with_reducible exact reclaim_Schedule.mono _ _ _ _)
      | (with_reducible exact wageofficelaw41_head.mono _)
      | (with_reducible exact wageofficeref41_SamePlan.mono _ _ _)
      | (with_reducible exact LeO.refl _)
      | (with_reducible exact LeO.none _)
      | (with_reducible refine LeO.ite ?_ ?_)
      | (with_reducible refine LeO.bind ?_ (fun _ => ?_))
      | exact ih0 _ _ _ _ _ _ _
      | exact ih1 _ _ _ _ _ _ _ _
      | exact ih2 _ _ _ _ _ _ _ _ _ _ _ _
      | exact ih3 _ _ _ _ _ _ _ _ _ _ _ _
      | exact ih4 _ _ _ _ _ _ _ _ _ _ _ _ _ _
      | exact ih5 _ _ _ _ _ _ _
      | exact reclaim_Schedule.mono _ _ _ _
      | exact wageofficelaw41_head.mono _
      | exact wageofficeref41_SamePlan.mono _ _ _
      | exact LeO.none _
      | refine LeO.ite ?_ ?_
      | refine LeO.bind ?_ (fun _ => ?_)
    · intro y0 y1 y2 y3 y4 y5 y6 y7 y8 y9 y10 y11
      unfold wageofficelaw41_ReclaimSchedules.l2
      repeat' first
      | (with_reducible exact ih0 _ _ _ _ _ _ _)
      | (with_reducible exact ih1 _ _ _ _ _ _ _ _)
      | (with_reducible exact ih2 _ _ _ _ _ _ _ _ _ _ _ _)
      | (with_reducible exact ih3 _ _ _ _ _ _ _ _ _ _ _ _)
      | (with_reducible exact ih4 _ _ _ _ _ _ _ _ _ _ _ _ _ _)
      | (with_reducible exact ih5 _ _ _ _ _ _ _)
      | (with_reducible exact reclaim_Schedule.mono _ _ _ _)
      | (with_reducible exact wageofficelaw41_head.mono _)
      | (with_reducible exact wageofficeref41_SamePlan.mono _ _ _)
      | (with_reducible exact LeO.refl _)
      | (with_reducible exact LeO.none _)
      | (with_reducible refine LeO.ite ?_ ?_)
      | (with_reducible refine LeO.bind ?_ (fun _ => ?_))
      | exact ih0 _ _ _ _ _ _ _
      | exact ih1 _ _ _ _ _ _ _ _
      | exact ih2 _ _ _ _ _ _ _ _ _ _ _ _
      | exact ih3 _ _ _ _ _ _ _ _ _ _ _ _
      | exact ih4 _ _ _ _ _ _ _ _ _ _ _ _ _ _
      | exact ih5 _ _ _ _ _ _ _
      | exact reclaim_Schedule.mono _ _ _ _
      | exact wageofficelaw41_head.mono _
      | exact wageofficeref41_SamePlan.mono _ _ _
      | exact LeO.none _
      | refine LeO.ite ?_ ?_
      | refine LeO.bind ?_ (fun _ => ?_)
    · intro y0 y1 y2 y3 y4 y5 y6 y7 y8 y9 y10 y11 y12 y13
      unfold wageofficelaw41_ReclaimSchedules.j4
      repeat' first
      | (with_reducible exact ih0 _ _ _ _ _ _ _)
      | (with_reducible exact ih1 _ _ _ _ _ _ _ _)
      | (with_reducible exact ih2 _ _ _ _ _ _ _ _ _ _ _ _)
      | (with_reducible exact ih3 _ _ _ _ _ _ _ _ _ _ _ _)
      | (with_reducible exact ih4 _ _ _ _ _ _ _ _ _ _ _ _ _ _)
      | (with_reducible exact ih5 _ _ _ _ _ _ _)
      | (with_reducible exact reclaim_Schedule.mono _ _ _ _)
      | (with_reducible exact wageofficelaw41_head.mono _)
      | (with_reducible exact wageofficeref41_SamePlan.mono _ _ _)
      | (with_reducible exact LeO.refl _)
      | (with_reducible exact LeO.none _)
      | (with_reducible refine LeO.ite ?_ ?_)
      | (with_reducible refine LeO.bind ?_ (fun _ => ?_))
      | exact ih0 _ _ _ _ _ _ _
      | exact ih1 _ _ _ _ _ _ _ _
      | exact ih2 _ _ _ _ _ _ _ _ _ _ _ _
      | exact ih3 _ _ _ _ _ _ _ _ _ _ _ _
      | exact ih4 _ _ _ _ _ _ _ _ _ _ _ _ _ _
      | exact ih5 _ _ _ _ _ _ _
      | exact reclaim_Schedule.mono _ _ _ _
      | exact wageofficelaw41_head.mono _
      | exact wageofficeref41_SamePlan.mono _ _ _
      | exact LeO.none _
      | refine LeO.ite ?_ ?_
      | refine LeO.bind ?_ (fun _ => ?_)
    · intro y0 y1 y2 y3 y4 y5 y6
      unfold wageofficelaw41_ReclaimSchedules.j5
      repeat' first
      | (with_reducible exact ih0 _ _ _ _ _ _ _)
      | (with_reducible exact ih1 _ _ _ _ _ _ _ _)
      | (with_reducible exact ih2 _ _ _ _ _ _ _ _ _ _ _ _)
      | (with_reducible exact ih3 _ _ _ _ _ _ _ _ _ _ _ _)
      | (with_reducible exact ih4 _ _ _ _ _ _ _ _ _ _ _ _ _ _)
      | (with_reducible exact ih5 _ _ _ _ _ _ _)
      | (with_reducible exact reclaim_Schedule.mono _ _ _ _)
      | (with_reducible exact wageofficelaw41_head.mono _)
      | (with_reducible exact wageofficeref41_SamePlan.mono _ _ _)
      | (with_reducible exact LeO.refl _)
      | (with_reducible exact LeO.none _)
      | (with_reducible refine LeO.ite ?_ ?_)
      | (with_reducible refine LeO.bind ?_ (fun _ => ?_))
      | exact ih0 _ _ _ _ _ _ _
      | exact ih1 _ _ _ _ _ _ _ _
      | exact ih2 _ _ _ _ _ _ _ _ _ _ _ _
      | exact ih3 _ _ _ _ _ _ _ _ _ _ _ _
      | exact ih4 _ _ _ _ _ _ _ _ _ _ _ _ _ _
      | exact ih5 _ _ _ _ _ _ _
      | exact reclaim_Schedule.mono _ _ _ _
      | exact wageofficelaw41_head.mono _
      | exact wageofficeref41_SamePlan.mono _ _ _
      | exact LeO.none _
      | refine LeO.ite ?_ ?_
      | refine LeO.bind ?_ (fun _ => ?_)
theorem wageofficelaw41_ReclaimSchedules.mono : ∀ a0 a1 a2 a3 k, LeO (wageofficelaw41_ReclaimSchedules.f k a0 a1 a2 a3) (wageofficelaw41_ReclaimSchedules.f (k + 1) a0 a1 a2 a3) := by
  intro a0 a1 a2 a3 k
  obtain ⟨ih0, ih1, ih2, ih3, ih4, ih5⟩ := wageofficelaw41_ReclaimSchedules.mono_l k
  unfold wageofficelaw41_ReclaimSchedules.f
  repeat' first
      | (with_reducible exact ih0 _ _ _ _ _ _ _)
      | (with_reducible exact ih1 _ _ _ _ _ _ _ _)
      | (with_reducible exact ih2 _ _ _ _ _ _ _ _ _ _ _ _)
      | (with_reducible exact ih3 _ _ _ _ _ _ _ _ _ _ _ _)
      | (with_reducible exact ih4 _ _ _ _ _ _ _ _ _ _ _ _ _ _)
      | (with_reducible exact ih5 _ _ _ _ _ _ _)
      | (with_reducible exact reclaim_Schedule.mono _ _ _ _)
      | (with_reducible exact wageofficelaw41_head.mono _)
      | (with_reducible exact wageofficeref41_SamePlan.mono _ _ _)
      | (with_reducible exact LeO.refl _)
      | (with_reducible exact LeO.none _)
      | (with_reducible refine LeO.ite ?_ ?_)
      | (with_reducible refine LeO.bind ?_ (fun _ => ?_))
      | exact ih0 _ _ _ _ _ _ _
      | exact ih1 _ _ _ _ _ _ _ _
      | exact ih2 _ _ _ _ _ _ _ _ _ _ _ _
      | exact ih3 _ _ _ _ _ _ _ _ _ _ _ _
      | exact ih4 _ _ _ _ _ _ _ _ _ _ _ _ _ _
      | exact ih5 _ _ _ _ _ _ _
      | exact reclaim_Schedule.mono _ _ _ _
      | exact wageofficelaw41_head.mono _
      | exact wageofficeref41_SamePlan.mono _ _ _
      | exact LeO.none _
      | refine LeO.ite ?_ ?_
      | refine LeO.bind ?_ (fun _ => ?_)
set_option maxHeartbeats 8000000 in
set_option maxRecDepth 100000 in
theorem wageofficelaw41_ReclaimSchedules.calls (k : Nat) (a0 : Int) (a1 : Int) (A2 : Option Addr) (c2 : Nat) (l2 : List Int) (a3 : Int) (r : Bool) (w : World) (hr2 : Kd.C (Kd.int .i64) w A2 l2.length l2) (hc2 : l2.length ≤ c2) (h : wageofficelaw41_ReclaimSchedules.f k a0 a1 l2 a3 = some r) :
    Calls Try.prog 7 #[.int .i64 a0, .int .i64 a1, .slice A2 l2.length c2, .int .i64 a3] w fun e w' => e = .returned (.bool r) ∧ Below w.heap.size w w' := by
  have HR2 := Aside0.mk hr2
  have HC2 := Aside0.mk hc2
  clear hr2 hc2
  have HB := Aside0.mk (Below.refl w.heap.size w)
  have H : ((wageofficelaw41_head.f k).bind fun t306 => (if 40 ≤ 35184372088832 then (wageofficelaw41_ReclaimSchedules.l0 k a0 a1 l2 a3 t306 (([] : List Int)) 0) else (none))) = some r := h
  clear h
  replace H := Option.bind_eq_some_iff.mp H
  obtain ⟨t306, A50, H⟩ := H
  replace H : (if 40 ≤ 35184372088832 then (wageofficelaw41_ReclaimSchedules.l0 k a0 a1 l2 a3 t306 (([] : List Int)) 0) else (none)) = some r := H
  have A5 := Aside0.mk A50
  clear A50
  by_cases c6 : 40 ≤ 35184372088832
  · rw [if_pos c6] at H
    have c6b0 := eq_true c6
    have c6b1 : decide (40 ≤ 35184372088832) = true := decide_eq_true c6
    clear c6
    obtain ⟨y307, hy307⟩ : ∃ y_ : List Int, y_ = (([] : List Int)) := ⟨_, rfl⟩
    replace H : (wageofficelaw41_ReclaimSchedules.l0 k a0 a1 l2 a3 t306 y307 0) = some r := by first | (rw [hy307]; with_reducible exact H) | (have H2_ := (Option.bind_some _ _).symm.trans H; rw [hy307]; with_reducible exact H2_) | (have H2_ := (Option.bind_some _ _).symm.trans H; with_reducible exact H2_) | with_reducible exact H | (rw [hy307]; exact H) | exact H
    have Ny307 := Aside0.mk hy307
    clear hy307
    have H' := Aside0.mk H
    clear H
    go_enter Try.func7, Try.ntmps7
    go_wp2_with (first | (go_at_call 8; (with_reducible refine (wageofficelaw41_head.calls k  t306 _ A5.out).mono ?_); rintro e w7 ⟨rfl, hb⟩; have n0_ := Aside0.mk (below_step (by repeat (first | (with_reducible first | exact HB.out | apply below_alloc | apply pw_below_drewN | apply below_drew1) | exact HB.out)) hb); clear HB; have HB := n0_; clear n0_; (try clear hb); (try clear hb2); (try clear hk); (try clear hi)) | ((with_reducible refine gate_dst (N := 32) rfl ?_); (try (refine gate_guard (by rfl) ?_; dsimp only)); refine Go.Proofs.Ytpgghakjbghagaa.HWords.R_make0 (Kd.int .i64) _ 3 rfl (N := 32) rfl 22 _ _ rfl 40 rfl rfl Try.underlying22 (.int .i64 0) 8 info3 (by omega) (ok := fun _ => True) (fun _ _ => trivial) (by omega) (by omega) (Below.refl _ _) (Nat.le_refl _) ?_; intro v308 w8 ho9 hb hg_ hnew_; clear hg_ hnew_; (first | rw [← Ny307.out] at ho9 | (simp only [Int.reduceToNat] at ho9; rw [← Ny307.out] at ho9)); have n0_ := Aside0.mk (Kd.R_lower ho9 (below_size (by repeat (first | (with_reducible first | exact HB.out | apply below_alloc | apply pw_below_drewN | apply below_drew1) | exact HB.out)))); have n1_ := Aside0.mk (below_step (by repeat (first | (with_reducible first | exact HB.out | apply below_alloc | apply pw_below_drewN | apply below_drew1) | exact HB.out)) hb); clear HB; have HO309 := n0_; have HB := n1_; clear n0_ n1_; clear hb ho9))
    repeat (go_quiet (first | (go_at_call 8; (with_reducible refine (wageofficelaw41_head.calls k  t306 _ A5.out).mono ?_); rintro e w7 ⟨rfl, hb⟩; have n0_ := Aside0.mk (below_step (by repeat (first | (with_reducible first | exact HB.out | apply below_alloc | apply pw_below_drewN | apply below_drew1) | exact HB.out)) hb); clear HB; have HB := n0_; clear n0_; (try clear hb); (try clear hb2); (try clear hk); (try clear hi)) | ((with_reducible refine gate_dst (N := 32) rfl ?_); (try (refine gate_guard (by rfl) ?_; dsimp only)); refine Go.Proofs.Ytpgghakjbghagaa.HWords.R_make0 (Kd.int .i64) _ 3 rfl (N := 32) rfl 22 _ _ rfl 40 rfl rfl Try.underlying22 (.int .i64 0) 8 info3 (by omega) (ok := fun _ => True) (fun _ _ => trivial) (by omega) (by omega) (Below.refl _ _) (Nat.le_refl _) ?_; intro v308 w8 ho9 hb hg_ hnew_; clear hg_ hnew_; (first | rw [← Ny307.out] at ho9 | (simp only [Int.reduceToNat] at ho9; rw [← Ny307.out] at ho9)); have n0_ := Aside0.mk (Kd.R_lower ho9 (below_size (by repeat (first | (with_reducible first | exact HB.out | apply below_alloc | apply pw_below_drewN | apply below_drew1) | exact HB.out)))); have n1_ := Aside0.mk (below_step (by repeat (first | (with_reducible first | exact HB.out | apply below_alloc | apply pw_below_drewN | apply below_drew1) | exact HB.out)) hb); clear HB; have HO309 := n0_; have HB := n1_; clear n0_ n1_; clear hb ho9)); try go_wp2_with (first | (go_at_call 8; (with_reducible refine (wageofficelaw41_head.calls k  t306 _ A5.out).mono ?_); rintro e w7 ⟨rfl, hb⟩; have n0_ := Aside0.mk (below_step (by repeat (first | (with_reducible first | exact HB.out | apply below_alloc | apply pw_below_drewN | apply below_drew1) | exact HB.out)) hb); clear HB; have HB := n0_; clear n0_; (try clear hb); (try clear hb2); (try clear hk); (try clear hi)) | ((with_reducible refine gate_dst (N := 32) rfl ?_); (try (refine gate_guard (by rfl) ?_; dsimp only)); refine Go.Proofs.Ytpgghakjbghagaa.HWords.R_make0 (Kd.int .i64) _ 3 rfl (N := 32) rfl 22 _ _ rfl 40 rfl rfl Try.underlying22 (.int .i64 0) 8 info3 (by omega) (ok := fun _ => True) (fun _ _ => trivial) (by omega) (by omega) (Below.refl _ _) (Nat.le_refl _) ?_; intro v308 w8 ho9 hb hg_ hnew_; clear hg_ hnew_; (first | rw [← Ny307.out] at ho9 | (simp only [Int.reduceToNat] at ho9; rw [← Ny307.out] at ho9)); have n0_ := Aside0.mk (Kd.R_lower ho9 (below_size (by repeat (first | (with_reducible first | exact HB.out | apply below_alloc | apply pw_below_drewN | apply below_drew1) | exact HB.out)))); have n1_ := Aside0.mk (below_step (by repeat (first | (with_reducible first | exact HB.out | apply below_alloc | apply pw_below_drewN | apply below_drew1) | exact HB.out)) hb); clear HB; have HO309 := n0_; have HB := n1_; clear n0_ n1_; clear hb ho9)))
    go_loopg [10, 11] k (fun kq v10 v11 w' => ∃ (x10_1 : List Int) (x11_1 : Int), v11 = .int .i64 x11_1 ∧ Aside0 (wageofficelaw41_ReclaimSchedules.l0 kq a0 a1 l2 a3 t306 x10_1 x11_1 = some r) ∧ Aside0 (kq ≤ k) ∧ Aside0 (Kd.R (Kd.int .i64) 3 w' w.heap.size (fun _ => True) v10 x10_1) ∧ Aside0 (Below w.heap.size w w'))
    case atStart => exact ⟨(y307), (0), (by first | rfl | (simp; done) | (simp [*]; done)), H', ⟨Nat.le_refl _⟩, ⟨by (with_reducible repeat (first | apply Kd.R_alloc | apply Kd.R_drewN | apply Kd.R_drew)); exact HO309.out⟩, ⟨by repeat (first | (with_reducible first | exact HB.out | apply below_alloc | apply pw_below_drewN | apply below_drew1) | exact HB.out)⟩⟩
    case round =>
      clear H'
      try clear c2
      try clear p2
      try clear c6
      try clear c6b0
      try clear c6b1
      try clear c7
      obtain ⟨x10_1, x11_1, rfl, HA, HK1, HO_10, HB⟩ := hrel
      cases gk with
      | zero => exact absurd HA.out (by simp [wageofficelaw41_ReclaimSchedules.l0])
      | succ k1 =>
        have H := HA.out
        clear HA
        simp only [wageofficelaw41_ReclaimSchedules.l0] at H
        have HC10 := Aside0.mk H
        clear H
        go_upto_region 4 with (fail)
        repeat (go_quiet (fail); go_upto_region 4 with (fail))
        go_cut [40] (fun v40 wc => ∃ (kq : Nat) (x40_9 : Bool), v40 = .bool x40_9 ∧ Aside0 (wageofficelaw41_ReclaimSchedules.j1 kq a0 a1 l2 a3 t306 x10_1 x11_1 x40_9 = some r) ∧ Aside0 (kq ≤ k1) ∧ Aside0 (Kd.R (Kd.int .i64) 3 wc w.heap.size (fun _ => True) u10 x10_1) ∧ Aside0 (Below w.heap.size w wc))
        case first =>
          have H := HC10.out
          clear HC10
          by_cases c11 : x11_1 < (l2.length : Int)
          · rw [if_pos c11] at H
            have c11b0 : decide (x11_1 < (l2.length : Int)) = true := decide_eq_true c11
            clear c11
            (first | rw [c11b0] | (simp only [i64_w, i32_w]; rw [c11b0]) | skip)
            have H' := Aside0.mk H
            clear H
            go_wp2
            repeat (go_quiet (fail); try go_wp2)
            go_meet
            case rel => exact ⟨_, (decide (x11_1 < 40)), (by first | rfl | (simp; done) | (simp [*]; done)), H', ⟨by have := HK1.out; first | omega | exact Nat.le_refl _⟩, ⟨by (with_reducible repeat (first | apply Kd.R_alloc | apply Kd.R_drewN | apply Kd.R_drew)); exact HO_10.out⟩, ⟨by repeat (first | (with_reducible first | exact HB.out | apply below_alloc | apply pw_below_drewN | apply below_drew1) | exact HB.out)⟩⟩
          · rw [if_neg c11] at H
            have c11b0 : decide (x11_1 < (l2.length : Int)) = false := decide_eq_false c11
            clear c11
            (first | rw [c11b0] | (simp only [i64_w, i32_w]; rw [c11b0]) | skip)
            have H' := Aside0.mk H
            clear H
            go_wp2
            repeat (go_quiet (fail); try go_wp2)
            go_meet
            case rel => exact ⟨_, (false), (by first | rfl | (simp; done) | (simp [*]; done)), H', ⟨by have := HK1.out; first | omega | exact Nat.le_refl _⟩, ⟨by (with_reducible repeat (first | apply Kd.R_alloc | apply Kd.R_drewN | apply Kd.R_drew)); exact HO_10.out⟩, ⟨by repeat (first | (with_reducible first | exact HB.out | apply below_alloc | apply pw_below_drewN | apply below_drew1) | exact HB.out)⟩⟩
        case rest =>
          clear HC10
          try clear c1
          try clear c2
          try clear p2
          try clear c6
          try clear c6b0
          try clear c6b1
          try clear c7
          try clear c11
          try clear c11b0
          try clear p2
          obtain ⟨kq, x40_9, rfl, HA, HJ9, HO_10, HB⟩ := hcut
          cases kq with
          | zero => exact absurd HA.out (by simp [wageofficelaw41_ReclaimSchedules.j1])
          | succ kj9 =>
            have H := HA.out
            clear HA
            simp only [wageofficelaw41_ReclaimSchedules.j1] at H
            by_cases c12 : x40_9 = true
            · subst c12
              have H1 : (if 0 ≤ x11_1 then (if x11_1 < (l2.length : Int) then ((wageofficelaw41_pick.f (rd l2 x11_1) 2000001).bind fun t311 => (if x10_1.length < 17592186044416 then (wageofficelaw41_ReclaimSchedules.l0 kj9 a0 a1 l2 a3 t306 (x10_1 ++ [wrap64 (t311 - 1000000)]) (wrap64 (x11_1 + 1))) else (none))) else (none)) else (none)) = some r := by rw [if_pos rfl] at H; exact H
              clear H
              have H := H1
              clear H1
              by_cases c13 : 0 ≤ x11_1
              · rw [if_pos c13] at H
                have c13b0 : decide (0 ≤ x11_1) = true := decide_eq_true c13
                clear c13
                by_cases c14 : x11_1 < (l2.length : Int)
                · rw [if_pos c14] at H
                  have c14b0 : decide (x11_1 < (l2.length : Int)) = true := decide_eq_true c14
                  clear c14
                  replace H := Option.bind_eq_some_iff.mp H
                  obtain ⟨t311, A150, H⟩ := H
                  replace H : (if x10_1.length < 17592186044416 then (wageofficelaw41_ReclaimSchedules.l0 kj9 a0 a1 l2 a3 t306 (x10_1 ++ [wrap64 (t311 - 1000000)]) (wrap64 (x11_1 + 1))) else (none)) = some r := H
                  have A15 := Aside0.mk A150
                  clear A150
                  by_cases c16 : x10_1.length < 17592186044416
                  · rw [if_pos c16] at H
                    have LMc16 := Aside0.mk c16
                    clear c16
                    obtain ⟨y312, hy312⟩ : ∃ y_ : List Int, y_ = (x10_1 ++ [wrap64 (t311 - 1000000)]) := ⟨_, rfl⟩
                    replace H : (wageofficelaw41_ReclaimSchedules.l0 kj9 a0 a1 l2 a3 t306 y312 (wrap64 (x11_1 + 1))) = some r := by first | (rw [hy312]; with_reducible exact H) | (have H2_ := (Option.bind_some _ _).symm.trans H; rw [hy312]; with_reducible exact H2_) | (have H2_ := (Option.bind_some _ _).symm.trans H; with_reducible exact H2_) | with_reducible exact H | (rw [hy312]; exact H) | exact H
                    have Ny312 := Aside0.mk hy312
                    clear hy312
                    have H' := Aside0.mk H
                    clear H
                    have p310 : 0 ≤ (x11_1 : Int) := of_decide_eq_true (by first | (with_reducible assumption) | assumption)
                    have q310 : x11_1 < (l2.length : Int) := of_decide_eq_true (by first | (with_reducible assumption) | assumption)
                    obtain ⟨ad310, e310, hx310_0⟩ := Kd.at_int HR2.out x11_1 p310 q310
                    cases e310
                    replace hx310_0 := (HB.out.cell (World.block_lt_of_cell? w _ hx310_0)).trans hx310_0
                    replace p310 := eq_true p310
                    replace q310 := eq_true q310
                    go_wp2_with (first | (go_at_call 14; (with_reducible refine (wageofficelaw41_pick.calls (rd l2 x11_1) 2000001 t311 _ A15.out).mono ?_); rintro e w' ⟨rfl, ⟨nd, rfl⟩⟩; (try first | exact ⟨rfl, _, World.drewN_drewN _ _ _⟩ | exact ⟨rfl, _, Eq.trans (World.drewN_drewN _ _ _) (congrArg (World.drewN _) (Nat.add_assoc _ _ _))⟩)) | ((with_reducible refine gate_builtin (b := .append) (xs := #[.tmp 43, .tmp 50]) rfl ?_); (try (refine gate_guard (by rfl) ?_; dsimp only)); at_builtin; refine Kd.R_append (Kd.int .i64) (w0 := w) w.heap.size rfl (.tmp 43) (.tmp 50) 22 3 (.int .i64 0) 8 rfl Try.underlying22 info3 rfl (by decide) (by omega) u10 x10_1 (wrap64 (t311 - 1000000)) [.int .i64 (wrap64 (t311 - 1000000))] (fun _ => True) (fun _ => False) rfl rfl ?aP (fun _ hk => hk.elim) ?aF ?aO ?aB ?aS ?aL ?_; (case aP => exact rfl); (case aB => exact (by repeat (first | (with_reducible first | exact HB.out | apply below_alloc | apply pw_below_drewN | apply below_drew1) | exact HB.out))); (case aF => exact (fun _ _ => trivial)); (case aO => exact (by (with_reducible repeat (first | apply Kd.R_alloc | apply Kd.R_drewN | apply Kd.R_drew)); exact HO_10.out)); (case aS => exact (below_size (by repeat (first | (with_reducible first | exact HB.out | apply below_alloc | apply pw_below_drewN | apply below_drew1) | exact HB.out)))); (case aL => have := LMc16.out; omega); intro v313 w17 ho hb hg hat; rw [← Ny312.out] at ho; have n0_ := Aside0.mk (hb); have n1_ := Aside0.mk (ho); clear HB; clear HO_10; have HB := n0_; have HO314 := n1_; clear n0_ n1_; clear ho hb hg hat))
                    repeat (go_quiet (first | (go_at_call 14; (with_reducible refine (wageofficelaw41_pick.calls (rd l2 x11_1) 2000001 t311 _ A15.out).mono ?_); rintro e w' ⟨rfl, ⟨nd, rfl⟩⟩; (try first | exact ⟨rfl, _, World.drewN_drewN _ _ _⟩ | exact ⟨rfl, _, Eq.trans (World.drewN_drewN _ _ _) (congrArg (World.drewN _) (Nat.add_assoc _ _ _))⟩)) | ((with_reducible refine gate_builtin (b := .append) (xs := #[.tmp 43, .tmp 50]) rfl ?_); (try (refine gate_guard (by rfl) ?_; dsimp only)); at_builtin; refine Kd.R_append (Kd.int .i64) (w0 := w) w.heap.size rfl (.tmp 43) (.tmp 50) 22 3 (.int .i64 0) 8 rfl Try.underlying22 info3 rfl (by decide) (by omega) u10 x10_1 (wrap64 (t311 - 1000000)) [.int .i64 (wrap64 (t311 - 1000000))] (fun _ => True) (fun _ => False) rfl rfl ?aP (fun _ hk => hk.elim) ?aF ?aO ?aB ?aS ?aL ?_; (case aP => exact rfl); (case aB => exact (by repeat (first | (with_reducible first | exact HB.out | apply below_alloc | apply pw_below_drewN | apply below_drew1) | exact HB.out))); (case aF => exact (fun _ _ => trivial)); (case aO => exact (by (with_reducible repeat (first | apply Kd.R_alloc | apply Kd.R_drewN | apply Kd.R_drew)); exact HO_10.out)); (case aS => exact (below_size (by repeat (first | (with_reducible first | exact HB.out | apply below_alloc | apply pw_below_drewN | apply below_drew1) | exact HB.out)))); (case aL => have := LMc16.out; omega); intro v313 w17 ho hb hg hat; rw [← Ny312.out] at ho; have n0_ := Aside0.mk (hb); have n1_ := Aside0.mk (ho); clear HB; clear HO_10; have HB := n0_; have HO314 := n1_; clear n0_ n1_; clear ho hb hg hat)); try go_wp2_with (first | (go_at_call 14; (with_reducible refine (wageofficelaw41_pick.calls (rd l2 x11_1) 2000001 t311 _ A15.out).mono ?_); rintro e w' ⟨rfl, ⟨nd, rfl⟩⟩; (try first | exact ⟨rfl, _, World.drewN_drewN _ _ _⟩ | exact ⟨rfl, _, Eq.trans (World.drewN_drewN _ _ _) (congrArg (World.drewN _) (Nat.add_assoc _ _ _))⟩)) | ((with_reducible refine gate_builtin (b := .append) (xs := #[.tmp 43, .tmp 50]) rfl ?_); (try (refine gate_guard (by rfl) ?_; dsimp only)); at_builtin; refine Kd.R_append (Kd.int .i64) (w0 := w) w.heap.size rfl (.tmp 43) (.tmp 50) 22 3 (.int .i64 0) 8 rfl Try.underlying22 info3 rfl (by decide) (by omega) u10 x10_1 (wrap64 (t311 - 1000000)) [.int .i64 (wrap64 (t311 - 1000000))] (fun _ => True) (fun _ => False) rfl rfl ?aP (fun _ hk => hk.elim) ?aF ?aO ?aB ?aS ?aL ?_; (case aP => exact rfl); (case aB => exact (by repeat (first | (with_reducible first | exact HB.out | apply below_alloc | apply pw_below_drewN | apply below_drew1) | exact HB.out))); (case aF => exact (fun _ _ => trivial)); (case aO => exact (by (with_reducible repeat (first | apply Kd.R_alloc | apply Kd.R_drewN | apply Kd.R_drew)); exact HO_10.out)); (case aS => exact (below_size (by repeat (first | (with_reducible first | exact HB.out | apply below_alloc | apply pw_below_drewN | apply below_drew1) | exact HB.out)))); (case aL => have := LMc16.out; omega); intro v313 w17 ho hb hg hat; rw [← Ny312.out] at ho; have n0_ := Aside0.mk (hb); have n1_ := Aside0.mk (ho); clear HB; clear HO_10; have HB := n0_; have HO314 := n1_; clear n0_ n1_; clear ho hb hg hat)))
                    go_roundg kj9
                    case measure => have := HK1.out; have := HJ9.out; omega
                    case rel => exact ⟨(y312), (wrap64 (x11_1 + 1)), (by first | rfl | (simp; done) | (simp [*]; done)), H', ⟨by have := HK1.out; have := HJ9.out; omega⟩, ⟨by (with_reducible repeat (first | apply Kd.R_alloc | apply Kd.R_drewN | apply Kd.R_drew)); exact HO314.out⟩, ⟨by repeat (first | (with_reducible first | exact HB.out | apply below_alloc | apply pw_below_drewN | apply below_drew1) | exact HB.out)⟩⟩
                  · rw [if_neg c16] at H
                    exact absurd H (by simp)
                · rw [if_neg c14] at H
                  exact absurd H (by simp)
              · rw [if_neg c13] at H
                exact absurd H (by simp)
            · replace c12 := Bool.eq_false_iff.mpr c12
              subst c12
              have H1 : ((wageofficelaw41_pick.f a0 5000000).bind fun t315 => ((wageofficelaw41_pick.f a1 1159).bind fun t316 => ((reclaim_Schedule.f kj9 t315 t316 x10_1).bind fun bt317 => (wageofficelaw41_ReclaimSchedules.l1 kj9 a3 t306 x10_1 t315 t316 bt317.1 bt317.2.1 bt317.2.2 bt317.2.1 (wrap64 (t316 - 1)) 0 0)))) = some r := by rw [if_neg (show ¬ (false = true) by decide)] at H; exact H
              clear H
              have H := H1
              clear H1
              replace H := Option.bind_eq_some_iff.mp H
              obtain ⟨t315, A180, H⟩ := H
              replace H : ((wageofficelaw41_pick.f a1 1159).bind fun t316 => ((reclaim_Schedule.f kj9 t315 t316 x10_1).bind fun bt317 => (wageofficelaw41_ReclaimSchedules.l1 kj9 a3 t306 x10_1 t315 t316 bt317.1 bt317.2.1 bt317.2.2 bt317.2.1 (wrap64 (t316 - 1)) 0 0))) = some r := H
              have A18 := Aside0.mk A180
              clear A180
              replace H := Option.bind_eq_some_iff.mp H
              obtain ⟨t316, A190, H⟩ := H
              replace H : ((reclaim_Schedule.f kj9 t315 t316 x10_1).bind fun bt317 => (wageofficelaw41_ReclaimSchedules.l1 kj9 a3 t306 x10_1 t315 t316 bt317.1 bt317.2.1 bt317.2.2 bt317.2.1 (wrap64 (t316 - 1)) 0 0)) = some r := H
              have A19 := Aside0.mk A190
              clear A190
              replace H := Option.bind_eq_some_iff.mp H
              obtain ⟨⟨t317, t318, t319⟩, A200, H⟩ := H
              replace H : (wageofficelaw41_ReclaimSchedules.l1 kj9 a3 t306 x10_1 t315 t316 t317 t318 t319 t318 (wrap64 (t316 - 1)) 0 0) = some r := H
              have A20 := Aside0.mk A200
              clear A200
              have H' := Aside0.mk H
              clear H
              go_wp2_with (first | (go_at_call 14; (with_reducible refine (wageofficelaw41_pick.calls a0 5000000 t315 _ A18.out).mono ?_); rintro e w' ⟨rfl, ⟨nd, rfl⟩⟩; (try first | exact ⟨rfl, _, World.drewN_drewN _ _ _⟩ | exact ⟨rfl, _, Eq.trans (World.drewN_drewN _ _ _) (congrArg (World.drewN _) (Nat.add_assoc _ _ _))⟩)) | (go_at_call 14; (with_reducible refine (wageofficelaw41_pick.calls a1 1159 t316 _ A19.out).mono ?_); rintro e w' ⟨rfl, ⟨nd, rfl⟩⟩; (try first | exact ⟨rfl, _, World.drewN_drewN _ _ _⟩ | exact ⟨rfl, _, Eq.trans (World.drewN_drewN _ _ _) (congrArg (World.drewN _) (Nat.add_assoc _ _ _))⟩); obtain ⟨Ao21, co21, eo21⟩ := Kd.R_slice HO_10.out; subst eo21) | (go_at_call 12; (with_reducible refine (reclaim_Schedule.calls kj9 t315 t316 _ _ x10_1 t317 t318 t319 _ ?side1 ?side2 A20.out).mono ?_); (case side1 => repeat (first | exact (Kd.R_reads' HO_10.out).2.2 | (with_reducible refine Kd.C_alloc ?_ _) | (with_reducible refine Kd.C_drewN ?_ _) | (with_reducible refine Kd.C_drew ?_))); (case side2 => exact (Kd.R_reads' HO_10.out).2.1); rintro e w22 ⟨v320, rfl, ho0, hb⟩; have n0_ := Aside0.mk (Kd.R_below (by (with_reducible repeat (first | apply Kd.R_alloc | apply Kd.R_drewN | apply Kd.R_drew)); exact HO_10.out) hb); have n1_ := Aside0.mk (Kd.R_lower ho0 (below_size (by repeat (first | (with_reducible first | exact HB.out | apply below_alloc | apply pw_below_drewN | apply below_drew1) | exact HB.out)))); have n2_ := Aside0.mk (below_step (by repeat (first | (with_reducible first | exact HB.out | apply below_alloc | apply pw_below_drewN | apply below_drew1) | exact HB.out)) hb); clear HO_10; clear HB; have HO_10 := n0_; have HO321 := n1_; have HB := n2_; clear n0_ n1_ n2_; (try clear hb); (try clear hb2); (try clear hk); (try clear hi); (try clear ho0)))
              repeat (go_quiet (first | (go_at_call 14; (with_reducible refine (wageofficelaw41_pick.calls a0 5000000 t315 _ A18.out).mono ?_); rintro e w' ⟨rfl, ⟨nd, rfl⟩⟩; (try first | exact ⟨rfl, _, World.drewN_drewN _ _ _⟩ | exact ⟨rfl, _, Eq.trans (World.drewN_drewN _ _ _) (congrArg (World.drewN _) (Nat.add_assoc _ _ _))⟩)) | (go_at_call 14; (with_reducible refine (wageofficelaw41_pick.calls a1 1159 t316 _ A19.out).mono ?_); rintro e w' ⟨rfl, ⟨nd, rfl⟩⟩; (try first | exact ⟨rfl, _, World.drewN_drewN _ _ _⟩ | exact ⟨rfl, _, Eq.trans (World.drewN_drewN _ _ _) (congrArg (World.drewN _) (Nat.add_assoc _ _ _))⟩); obtain ⟨Ao21, co21, eo21⟩ := Kd.R_slice HO_10.out; subst eo21) | (go_at_call 12; (with_reducible refine (reclaim_Schedule.calls kj9 t315 t316 _ _ x10_1 t317 t318 t319 _ ?side1 ?side2 A20.out).mono ?_); (case side1 => repeat (first | exact (Kd.R_reads' HO_10.out).2.2 | (with_reducible refine Kd.C_alloc ?_ _) | (with_reducible refine Kd.C_drewN ?_ _) | (with_reducible refine Kd.C_drew ?_))); (case side2 => exact (Kd.R_reads' HO_10.out).2.1); rintro e w22 ⟨v320, rfl, ho0, hb⟩; have n0_ := Aside0.mk (Kd.R_below (by (with_reducible repeat (first | apply Kd.R_alloc | apply Kd.R_drewN | apply Kd.R_drew)); exact HO_10.out) hb); have n1_ := Aside0.mk (Kd.R_lower ho0 (below_size (by repeat (first | (with_reducible first | exact HB.out | apply below_alloc | apply pw_below_drewN | apply below_drew1) | exact HB.out)))); have n2_ := Aside0.mk (below_step (by repeat (first | (with_reducible first | exact HB.out | apply below_alloc | apply pw_below_drewN | apply below_drew1) | exact HB.out)) hb); clear HO_10; clear HB; have HO_10 := n0_; have HO321 := n1_; have HB := n2_; clear n0_ n1_ n2_; (try clear hb); (try clear hb2); (try clear hk); (try clear hi); (try clear ho0))); try go_wp2_with (first | (go_at_call 14; (with_reducible refine (wageofficelaw41_pick.calls a0 5000000 t315 _ A18.out).mono ?_); rintro e w' ⟨rfl, ⟨nd, rfl⟩⟩; (try first | exact ⟨rfl, _, World.drewN_drewN _ _ _⟩ | exact ⟨rfl, _, Eq.trans (World.drewN_drewN _ _ _) (congrArg (World.drewN _) (Nat.add_assoc _ _ _))⟩)) | (go_at_call 14; (with_reducible refine (wageofficelaw41_pick.calls a1 1159 t316 _ A19.out).mono ?_); rintro e w' ⟨rfl, ⟨nd, rfl⟩⟩; (try first | exact ⟨rfl, _, World.drewN_drewN _ _ _⟩ | exact ⟨rfl, _, Eq.trans (World.drewN_drewN _ _ _) (congrArg (World.drewN _) (Nat.add_assoc _ _ _))⟩); obtain ⟨Ao21, co21, eo21⟩ := Kd.R_slice HO_10.out; subst eo21) | (go_at_call 12; (with_reducible refine (reclaim_Schedule.calls kj9 t315 t316 _ _ x10_1 t317 t318 t319 _ ?side1 ?side2 A20.out).mono ?_); (case side1 => repeat (first | exact (Kd.R_reads' HO_10.out).2.2 | (with_reducible refine Kd.C_alloc ?_ _) | (with_reducible refine Kd.C_drewN ?_ _) | (with_reducible refine Kd.C_drew ?_))); (case side2 => exact (Kd.R_reads' HO_10.out).2.1); rintro e w22 ⟨v320, rfl, ho0, hb⟩; have n0_ := Aside0.mk (Kd.R_below (by (with_reducible repeat (first | apply Kd.R_alloc | apply Kd.R_drewN | apply Kd.R_drew)); exact HO_10.out) hb); have n1_ := Aside0.mk (Kd.R_lower ho0 (below_size (by repeat (first | (with_reducible first | exact HB.out | apply below_alloc | apply pw_below_drewN | apply below_drew1) | exact HB.out)))); have n2_ := Aside0.mk (below_step (by repeat (first | (with_reducible first | exact HB.out | apply below_alloc | apply pw_below_drewN | apply below_drew1) | exact HB.out)) hb); clear HO_10; clear HB; have HO_10 := n0_; have HO321 := n1_; have HB := n2_; clear n0_ n1_ n2_; (try clear hb); (try clear hb2); (try clear hk); (try clear hi); (try clear ho0))))
              go_loopg [19, 20] kj9 (fun kq v19 v20 w' => ∃ (x19_3 : Int) (x20_3 : Int), v19 = .int .i64 x19_3 ∧ v20 = .int .i64 x20_3 ∧ Aside0 (wageofficelaw41_ReclaimSchedules.l1 kq a3 t306 x10_1 t315 t316 t317 t318 t319 t318 (wrap64 (t316 - 1)) x19_3 x20_3 = some r) ∧ Aside0 (kq ≤ kj9) ∧ Aside0 (Kd.R (Kd.int .i64) 3 w' w.heap.size (fun _ => True) (.slice Ao21 x10_1.length co21) x10_1) ∧ Aside0 (Kd.R k41 41 w' w.heap.size (fun _ => True) v320 t317) ∧ Aside0 (Below w.heap.size w w'))
              case atStart => exact ⟨(0), (0), (by first | rfl | (simp; done) | (simp [*]; done)), (by first | rfl | (simp; done) | (simp [*]; done)), H', ⟨Nat.le_refl _⟩, ⟨by (with_reducible repeat (first | apply Kd.R_alloc | apply Kd.R_drewN | apply Kd.R_drew)); exact HO_10.out⟩, ⟨by (with_reducible repeat (first | apply Kd.R_alloc | apply Kd.R_drewN | apply Kd.R_drew)); exact HO321.out⟩, ⟨by repeat (first | (with_reducible first | exact HB.out | apply below_alloc | apply pw_below_drewN | apply below_drew1) | exact HB.out)⟩⟩
              case round =>
                clear H'
                try clear c1
                try clear c2
                try clear p2
                try clear p3
                try clear q3
                try clear hx3
                try clear c6
                try clear c6b0
                try clear c6b1
                try clear p6
                try clear c7
                try clear c11
                try clear c11b0
                try clear c12
                try clear c13
                try clear c13b0
                try clear c14
                try clear c14b0
                try clear c16
                try clear hx310_0
                try clear p2
                try clear p310
                try clear q310
                obtain ⟨x19_3, x20_3, rfl, rfl, HA, HK3, HO_10, HO_14, HB⟩ := hrel
                cases gk with
                | zero => exact absurd HA.out (by simp [wageofficelaw41_ReclaimSchedules.l1])
                | succ k3 =>
                  have H := HA.out
                  clear HA
                  simp only [wageofficelaw41_ReclaimSchedules.l1] at H
                  by_cases c23 : x20_3 < (x10_1.length : Int)
                  · rw [if_pos c23] at H
                    have c23b0 : decide (x20_3 < (x10_1.length : Int)) = true := decide_eq_true c23
                    clear c23
                    by_cases c24 : 0 ≤ x20_3
                    · rw [if_pos c24] at H
                      have c24b0 : decide (0 ≤ x20_3) = true := decide_eq_true c24
                      clear c24
                      obtain ⟨ji25, hji25⟩ : ∃ j_ : Int, (mx (rd x10_1 x20_3) 0) = j_ := ⟨_, rfl⟩
                      replace H : (wageofficelaw41_ReclaimSchedules.l1 k3 a3 t306 x10_1 t315 t316 t317 t318 t319 t318 (wrap64 (t316 - 1)) (wrap64 (x19_3 + (wrap64 ((ji25) / 4)))) (wrap64 (x20_3 + 1))) = some r := by first | (rw [hji25] at H; exact H) | (simp only [hji25] at H ⊢; exact H)
                      have hji25_ : (if (rd x10_1 x20_3) < 0 then 0 else (rd x10_1 x20_3)) = ji25 := hji25
                      have H' := Aside0.mk H
                      clear H
                      have p322 : 0 ≤ (x20_3 : Int) := of_decide_eq_true (by first | (with_reducible assumption) | assumption)
                      have q322 : x20_3 < (x10_1.length : Int) := of_decide_eq_true (by first | (with_reducible assumption) | assumption)
                      obtain ⟨ad322, e322, hx322_0⟩ := Kd.at_int (Kd.R_reads' HO_10.out).2.2 x20_3 p322 q322
                      cases e322
                      replace p322 := eq_true p322
                      replace q322 := eq_true q322
                      go_wp2
                      repeat (go_quiet (fail); try go_wp2)
                      go_roundg k3
                      case measure => have := HK1.out; have := HJ9.out; have := HK3.out; omega
                      case rel => exact ⟨(wrap64 (x19_3 + (wrap64 ((ji25) / 4)))), (wrap64 (x20_3 + 1)), (by first | rfl | (simp; done) | (simp only [← hji25] <;> (first | rfl | (simp; done) | (rw [Int.tdiv_eq_ediv_of_nonneg (by unfold mx; split <;> omega)]))) | (simp [*]; done)), (by first | rfl | (simp; done) | (simp [*]; done)), H', ⟨by have := HK1.out; have := HJ9.out; have := HK3.out; omega⟩, ⟨by (with_reducible repeat (first | apply Kd.R_alloc | apply Kd.R_drewN | apply Kd.R_drew)); exact HO_10.out⟩, ⟨by (with_reducible repeat (first | apply Kd.R_alloc | apply Kd.R_drewN | apply Kd.R_drew)); exact HO_14.out⟩, ⟨by repeat (first | (with_reducible first | exact HB.out | apply below_alloc | apply pw_below_drewN | apply below_drew1) | exact HB.out)⟩⟩
                    · rw [if_neg c24] at H
                      exact absurd H (by simp)
                  · rw [if_neg c23] at H
                    have c23b0 : decide (x20_3 < (x10_1.length : Int)) = false := decide_eq_false c23
                    clear c23
                    have H' := Aside0.mk H
                    clear H
                    go_wp2
                    repeat (go_quiet (fail); try go_wp2)
                    go_loopg [9, 17, 18, 21] k3 (fun kq v9 v17 v18 v21 w' => ∃ (x9_4 : Bool) (x17_4 : Int) (x18_4 : Int) (x21_4 : Int), v9 = .bool x9_4 ∧ v17 = .int .i64 x17_4 ∧ v18 = .int .i64 x18_4 ∧ v21 = .int .i64 x21_4 ∧ Aside0 (wageofficelaw41_ReclaimSchedules.l2 kq a3 x9_4 x10_1 t315 t316 t317 t318 t319 x17_4 x18_4 x19_3 x21_4 = some r) ∧ Aside0 (kq ≤ k3) ∧ Aside0 (Kd.R (Kd.int .i64) 3 w' w.heap.size (fun _ => True) (.slice Ao21 x10_1.length co21) x10_1) ∧ Aside0 (Kd.R k41 41 w' w.heap.size (fun _ => True) v320 t317) ∧ Aside0 (Below w.heap.size w w'))
                    case atStart => exact ⟨(t306), (t318), ((wrap64 (t316 - 1))), (0), (by first | rfl | (simp; done) | (simp [*]; done)), (by first | rfl | (simp; done) | (simp [*]; done)), (by first | rfl | (simp; done) | (simp [*]; done)), (by first | rfl | (simp; done) | (simp [*]; done)), H', ⟨Nat.le_refl _⟩, ⟨by (with_reducible repeat (first | apply Kd.R_alloc | apply Kd.R_drewN | apply Kd.R_drew)); exact HO_10.out⟩, ⟨by (with_reducible repeat (first | apply Kd.R_alloc | apply Kd.R_drewN | apply Kd.R_drew)); exact HO_14.out⟩, ⟨by repeat (first | (with_reducible first | exact HB.out | apply below_alloc | apply pw_below_drewN | apply below_drew1) | exact HB.out)⟩⟩
                    case round =>
                      clear H'
                      try clear c1
                      try clear c2
                      try clear p2
                      try clear p3
                      try clear q3
                      try clear hx3
                      try clear c6
                      try clear c6b0
                      try clear c6b1
                      try clear p6
                      try clear c7
                      try clear c11
                      try clear c11b0
                      try clear c12
                      try clear c13
                      try clear c13b0
                      try clear c14
                      try clear c14b0
                      try clear c16
                      try clear c23
                      try clear c23b0
                      try clear c24
                      try clear c24b0
                      try clear hx310_0
                      try clear hx322_0
                      try clear p2
                      try clear p3
                      try clear p310
                      try clear p322
                      try clear p6
                      try clear q3
                      try clear q310
                      try clear q322
                      obtain ⟨x9_4, x17_4, x18_4, x21_4, rfl, rfl, rfl, rfl, HA, HK4, HO_10, HO_14, HB⟩ := hrel
                      cases gk with
                      | zero => exact absurd HA.out (by simp [wageofficelaw41_ReclaimSchedules.l2])
                      | succ k4 =>
                        have H := HA.out
                        clear HA
                        simp only [wageofficelaw41_ReclaimSchedules.l2] at H
                        by_cases c26 : x21_4 < (t317.length : Int)
                        · rw [if_pos c26] at H
                          have c26b0 : decide (x21_4 < (t317.length : Int)) = true := decide_eq_true c26
                          clear c26
                          by_cases c27 : 0 ≤ x21_4
                          · rw [if_pos c27] at H
                            have c27b0 : decide (0 ≤ x21_4) = true := decide_eq_true c27
                            clear c27
                            have HC28 := Aside0.mk H
                            clear H
                            obtain ⟨Ao29, co29, eo29⟩ := Kd.R_slice HO_14.out
                            subst eo29
                            have p323 : 0 ≤ (x21_4 : Int) := of_decide_eq_true (by first | (with_reducible assumption) | assumption)
                            have q323 : x21_4 < (t317.length : Int) := of_decide_eq_true (by first | (with_reducible assumption) | assumption)
                            obtain ⟨ad323, e323, hx323_0, hx323_1⟩ := at_T41 (Kd.R_reads' HO_14.out).2.2 x21_4 p323 q323
                            cases e323
                            replace p323 := eq_true p323
                            replace q323 := eq_true q323
                            go_upto_region 21 with (fail)
                            repeat (go_quiet (fail); go_upto_region 21 with (fail))
                            go_cut [101] (fun v101 wc => ∃ (kq : Nat) (x101_27 : Bool), v101 = .bool x101_27 ∧ Aside0 (wageofficelaw41_ReclaimSchedules.j4 kq a3 x9_4 x10_1 t315 t316 t317 t318 t319 x17_4 x18_4 x19_3 x21_4 (wrap64 (((rd_T41 t317 x21_4).f0) - t316)) x101_27 = some r) ∧ Aside0 (kq ≤ k4) ∧ Aside0 (Kd.R (Kd.int .i64) 3 wc w.heap.size (fun _ => True) (.slice Ao21 x10_1.length co21) x10_1) ∧ Aside0 (Kd.R k41 41 wc w.heap.size (fun _ => True) (.slice (some ad323) t317.length co29) t317) ∧ Aside0 (Below w.heap.size w wc))
                            case first =>
                              have H := HC28.out
                              clear HC28
                              by_cases c30 : (wrap64 (((rd_T41 t317 x21_4).f0) - t316)) < 0
                              · rw [if_pos c30] at H
                                have c30b0 : decide ((wrap64 (((rd_T41 t317 x21_4).f0) - t316)) < 0) = true := decide_eq_true c30
                                clear c30
                                (first | rw [c30b0] | (simp only [i64_w, i32_w]; rw [c30b0]) | skip)
                                have H' := Aside0.mk H
                                clear H
                                go_wp2
                                repeat (go_quiet (fail); try go_wp2)
                                go_meet
                                case rel => exact ⟨_, (true), (by first | rfl | (simp; done) | (simp [*]; done)), H', ⟨by have := HK1.out; have := HJ9.out; have := HK3.out; have := HK4.out; first | omega | exact Nat.le_refl _⟩, ⟨by (with_reducible repeat (first | apply Kd.R_alloc | apply Kd.R_drewN | apply Kd.R_drew)); exact HO_10.out⟩, ⟨by (with_reducible repeat (first | apply Kd.R_alloc | apply Kd.R_drewN | apply Kd.R_drew)); exact HO_14.out⟩, ⟨by repeat (first | (with_reducible first | exact HB.out | apply below_alloc | apply pw_below_drewN | apply below_drew1) | exact HB.out)⟩⟩
                              · rw [if_neg c30] at H
                                have c30b0 : decide ((wrap64 (((rd_T41 t317 x21_4).f0) - t316)) < 0) = false := decide_eq_false c30
                                clear c30
                                (first | rw [c30b0] | (simp only [i64_w, i32_w]; rw [c30b0]) | skip)
                                have H' := Aside0.mk H
                                clear H
                                go_wp2
                                repeat (go_quiet (fail); try go_wp2)
                                go_meet
                                case rel => exact ⟨_, (decide ((wrap64 (((rd_T41 t317 x21_4).f0) - t316)) ≥ (x10_1.length : Int))), (by first | rfl | (simp; done) | (simp [*]; done)), H', ⟨by have := HK1.out; have := HJ9.out; have := HK3.out; have := HK4.out; first | omega | exact Nat.le_refl _⟩, ⟨by (with_reducible repeat (first | apply Kd.R_alloc | apply Kd.R_drewN | apply Kd.R_drew)); exact HO_10.out⟩, ⟨by (with_reducible repeat (first | apply Kd.R_alloc | apply Kd.R_drewN | apply Kd.R_drew)); exact HO_14.out⟩, ⟨by repeat (first | (with_reducible first | exact HB.out | apply below_alloc | apply pw_below_drewN | apply below_drew1) | exact HB.out)⟩⟩
                            case rest =>
                              clear HC28
                              try clear c1
                              try clear c2
                              try clear p2
                              try clear c3
                              try clear p3
                              try clear q3
                              try clear hx3
                              try clear c6
                              try clear c6b0
                              try clear c6b1
                              try clear p6
                              try clear c7
                              try clear c11
                              try clear c11b0
                              try clear c12
                              try clear c13
                              try clear c13b0
                              try clear c14
                              try clear c14b0
                              try clear c16
                              try clear c23
                              try clear c23b0
                              try clear c24
                              try clear c24b0
                              try clear c26
                              try clear c26b0
                              try clear c27
                              try clear c27b0
                              try clear c30
                              try clear c30b0
                              try clear hx310_0
                              try clear hx322_0
                              try clear hx323_0
                              try clear hx323_1
                              try clear p2
                              try clear p3
                              try clear p310
                              try clear p322
                              try clear p323
                              try clear p6
                              try clear q3
                              try clear q310
                              try clear q322
                              try clear q323
                              obtain ⟨kq, x101_27, rfl, HA, HJ27, HO_10, HO_14, HB⟩ := hcut
                              cases kq with
                              | zero => exact absurd HA.out (by simp [wageofficelaw41_ReclaimSchedules.j4])
                              | succ kj27 =>
                                have H := HA.out
                                clear HA
                                simp only [wageofficelaw41_ReclaimSchedules.j4] at H
                                by_cases c31 : x101_27 = true
                                · subst c31
                                  have H1 : (none) = some r := by rw [if_pos rfl] at H; exact H
                                  clear H
                                  have H := H1
                                  clear H1
                                  exact absurd H (by simp)
                                · replace c31 := Bool.eq_false_iff.mpr c31
                                  subst c31
                                  have H1 : (if x9_4 = true then (if 0 ≤ x21_4 then (if x21_4 < (t317.length : Int) then (if ((rd_T41 t317 x21_4).f0) > x18_4 then (if ((rd_T41 t317 x21_4).f1) > 0 then (if 0 ≤ (wrap64 (((rd_T41 t317 x21_4).f0) - t316)) then (if (wrap64 (((rd_T41 t317 x21_4).f0) - t316)) < (x10_1.length : Int) then (wageofficelaw41_ReclaimSchedules.l2 kj27 a3 (decide (((rd_T41 t317 x21_4).f1) ≤ (wrap64 (Int.tdiv (rd x10_1 (wrap64 (((rd_T41 t317 x21_4).f0) - t316))) 4)))) x10_1 t315 t316 t317 t318 t319 (wrap64 (x17_4 + ((rd_T41 t317 x21_4).f1))) ((rd_T41 t317 x21_4).f0) x19_3 (wrap64 (x21_4 + 1))) else (none)) else (none)) else (none)) else (none)) else (none)) else (none)) else (none)) = some r := by rw [if_neg (show ¬ (false = true) by decide)] at H; exact H
                                  clear H
                                  have H := H1
                                  clear H1
                                  by_cases c32 : x9_4 = true
                                  · subst c32
                                    have H1 : (if 0 ≤ x21_4 then (if x21_4 < (t317.length : Int) then (if ((rd_T41 t317 x21_4).f0) > x18_4 then (if ((rd_T41 t317 x21_4).f1) > 0 then (if 0 ≤ (wrap64 (((rd_T41 t317 x21_4).f0) - t316)) then (if (wrap64 (((rd_T41 t317 x21_4).f0) - t316)) < (x10_1.length : Int) then (wageofficelaw41_ReclaimSchedules.l2 kj27 a3 (decide (((rd_T41 t317 x21_4).f1) ≤ (wrap64 (Int.tdiv (rd x10_1 (wrap64 (((rd_T41 t317 x21_4).f0) - t316))) 4)))) x10_1 t315 t316 t317 t318 t319 (wrap64 (x17_4 + ((rd_T41 t317 x21_4).f1))) ((rd_T41 t317 x21_4).f0) x19_3 (wrap64 (x21_4 + 1))) else (none)) else (none)) else (none)) else (none)) else (none)) else (none)) = some r := by rw [if_pos rfl] at H; exact H
                                    clear H
                                    have H := H1
                                    clear H1
                                    by_cases c33 : 0 ≤ x21_4
                                    · rw [if_pos c33] at H
                                      have c33b0 : decide (0 ≤ x21_4) = true := decide_eq_true c33
                                      clear c33
                                      by_cases c34 : x21_4 < (t317.length : Int)
                                      · rw [if_pos c34] at H
                                        have c34b0 : decide (x21_4 < (t317.length : Int)) = true := decide_eq_true c34
                                        clear c34
                                        by_cases c35 : ((rd_T41 t317 x21_4).f0) > x18_4
                                        · rw [if_pos c35] at H
                                          have c35b0 : decide (x18_4 < ((rd_T41 t317 x21_4).f0)) = true := decide_eq_true c35
                                          clear c35
                                          by_cases c36 : ((rd_T41 t317 x21_4).f1) > 0
                                          · rw [if_pos c36] at H
                                            have c36b0 : decide (0 < ((rd_T41 t317 x21_4).f1)) = true := decide_eq_true c36
                                            clear c36
                                            obtain ⟨ji37, hji37⟩ : ∃ j_ : Int, (wrap64 (((rd_T41 t317 x21_4).f0) - t316)) = j_ := ⟨_, rfl⟩
                                            replace H : (if 0 ≤ (ji37) then (if (ji37) < (x10_1.length : Int) then (wageofficelaw41_ReclaimSchedules.l2 kj27 a3 (decide (((rd_T41 t317 x21_4).f1) ≤ (wrap64 (Int.tdiv (rd x10_1 (ji37)) 4)))) x10_1 t315 t316 t317 t318 t319 (wrap64 (x17_4 + ((rd_T41 t317 x21_4).f1))) ((rd_T41 t317 x21_4).f0) x19_3 (wrap64 (x21_4 + 1))) else (none)) else (none)) = some r := by first | (rw [hji37] at H; exact H) | (simp only [hji37] at H ⊢; exact H)
                                            have hji37w : (IntKind.i64.wrap (((rd_T41 t317 x21_4).f0) - t316)) = ji37 := (i64_w _).trans hji37
                                            by_cases c38 : 0 ≤ (ji37)
                                            · rw [if_pos c38] at H
                                              have c38b0 : decide (0 ≤ (ji37)) = true := decide_eq_true c38
                                              clear c38
                                              by_cases c39 : (ji37) < (x10_1.length : Int)
                                              · rw [if_pos c39] at H
                                                have c39b0 : decide ((ji37) < (x10_1.length : Int)) = true := decide_eq_true c39
                                                clear c39
                                                have H' := Aside0.mk H
                                                clear H
                                                have p324 : 0 ≤ (x21_4 : Int) := of_decide_eq_true (by first | (with_reducible assumption) | assumption)
                                                have q324 : x21_4 < (t317.length : Int) := of_decide_eq_true (by first | (with_reducible assumption) | assumption)
                                                obtain ⟨ad324, e324, hx324_0, hx324_1⟩ := at_T41 (Kd.R_reads' HO_14.out).2.2 x21_4 p324 q324
                                                obtain rfl : ad323 = ad324 := (by injection e324)
                                                replace p324 := eq_true p324
                                                replace q324 := eq_true q324
                                                have p325 : 0 ≤ (x21_4 : Int) := of_decide_eq_true (by first | (with_reducible assumption) | assumption)
                                                have q325 : x21_4 < (t317.length : Int) := of_decide_eq_true (by first | (with_reducible assumption) | assumption)
                                                obtain ⟨ad325, e325, hx325_0, hx325_1⟩ := at_T41 (Kd.R_reads' HO_14.out).2.2 x21_4 p325 q325
                                                obtain rfl : ad323 = ad325 := (by injection e325)
                                                replace p325 := eq_true p325
                                                replace q325 := eq_true q325
                                                have p326 : 0 ≤ (x21_4 : Int) := of_decide_eq_true (by first | (with_reducible assumption) | assumption)
                                                have q326 : x21_4 < (t317.length : Int) := of_decide_eq_true (by first | (with_reducible assumption) | assumption)
                                                obtain ⟨ad326, e326, hx326_0, hx326_1⟩ := at_T41 (Kd.R_reads' HO_14.out).2.2 x21_4 p326 q326
                                                obtain rfl : ad323 = ad326 := (by injection e326)
                                                replace p326 := eq_true p326
                                                replace q326 := eq_true q326
                                                have p327 : 0 ≤ ((ji37) : Int) := of_decide_eq_true (by first | (with_reducible assumption) | assumption)
                                                have q327 : (ji37) < (x10_1.length : Int) := of_decide_eq_true (by first | (with_reducible assumption) | assumption)
                                                obtain ⟨ad327, e327, hx327_0⟩ := Kd.at_int (Kd.R_reads' HO_10.out).2.2 (ji37) p327 q327
                                                cases e327
                                                replace p327 := eq_true p327
                                                replace q327 := eq_true q327
                                                have p328 : 0 ≤ (x21_4 : Int) := of_decide_eq_true (by first | (with_reducible assumption) | assumption)
                                                have q328 : x21_4 < (t317.length : Int) := of_decide_eq_true (by first | (with_reducible assumption) | assumption)
                                                obtain ⟨ad328, e328, hx328_0, hx328_1⟩ := at_T41 (Kd.R_reads' HO_14.out).2.2 x21_4 p328 q328
                                                obtain rfl : ad323 = ad328 := (by injection e328)
                                                replace p328 := eq_true p328
                                                replace q328 := eq_true q328
                                                have p329 : 0 ≤ (x21_4 : Int) := of_decide_eq_true (by first | (with_reducible assumption) | assumption)
                                                have q329 : x21_4 < (t317.length : Int) := of_decide_eq_true (by first | (with_reducible assumption) | assumption)
                                                obtain ⟨ad329, e329, hx329_0, hx329_1⟩ := at_T41 (Kd.R_reads' HO_14.out).2.2 x21_4 p329 q329
                                                obtain rfl : ad323 = ad329 := (by injection e329)
                                                replace p329 := eq_true p329
                                                replace q329 := eq_true q329
                                                go_wp2
                                                repeat (go_quiet (fail); try go_wp2)
                                                go_roundg kj27
                                                case measure => have := HK1.out; have := HJ9.out; have := HK3.out; have := HK4.out; have := HJ27.out; omega
                                                case rel => exact ⟨(decide (((rd_T41 t317 x21_4).f1) ≤ (wrap64 (Int.tdiv (rd x10_1 (ji37)) 4)))), (wrap64 (x17_4 + ((rd_T41 t317 x21_4).f1))), ((rd_T41 t317 x21_4).f0), (wrap64 (x21_4 + 1)), (by first | rfl | (simp; done) | (simp only [← hji37] <;> (first | rfl | (simp; done) | (rw [Int.tdiv_eq_ediv_of_nonneg (by unfold mx; split <;> omega)]))) | (simp [*]; done)), (by first | rfl | (simp; done) | (simp [*]; done)), (by first | rfl | (simp; done) | (simp [*]; done)), (by first | rfl | (simp; done) | (simp [*]; done)), H', ⟨by have := HK1.out; have := HJ9.out; have := HK3.out; have := HK4.out; have := HJ27.out; omega⟩, ⟨by (with_reducible repeat (first | apply Kd.R_alloc | apply Kd.R_drewN | apply Kd.R_drew)); exact HO_10.out⟩, ⟨by (with_reducible repeat (first | apply Kd.R_alloc | apply Kd.R_drewN | apply Kd.R_drew)); exact HO_14.out⟩, ⟨by repeat (first | (with_reducible first | exact HB.out | apply below_alloc | apply pw_below_drewN | apply below_drew1) | exact HB.out)⟩⟩
                                              · rw [if_neg c39] at H
                                                exact absurd H (by simp)
                                            · rw [if_neg c38] at H
                                              exact absurd H (by simp)
                                          · rw [if_neg c36] at H
                                            exact absurd H (by simp)
                                        · rw [if_neg c35] at H
                                          exact absurd H (by simp)
                                      · rw [if_neg c34] at H
                                        exact absurd H (by simp)
                                    · rw [if_neg c33] at H
                                      exact absurd H (by simp)
                                  · replace c32 := Bool.eq_false_iff.mpr c32
                                    subst c32
                                    have H1 : (none) = some r := by rw [if_neg (show ¬ (false = true) by decide)] at H; exact H
                                    clear H
                                    have H := H1
                                    clear H1
                                    exact absurd H (by simp)
                          · rw [if_neg c27] at H
                            exact absurd H (by simp)
                        · rw [if_neg c26] at H
                          have c26b0 : decide (x21_4 < (t317.length : Int)) = false := decide_eq_false c26
                          clear c26
                          have HC40 := Aside0.mk H
                          clear H
                          obtain ⟨Ao41, co41, eo41⟩ := Kd.R_slice HO_14.out
                          subst eo41
                          go_upto_region 26 with (fail)
                          repeat (go_quiet (fail); go_upto_region 26 with (fail))
                          go_cut [9] (fun v9 wc => ∃ (kq : Nat) (x9_39 : Bool), v9 = .bool x9_39 ∧ Aside0 (wageofficelaw41_ReclaimSchedules.j5 kq a3 x9_39 x10_1 t315 t316 t317 t318 = some r) ∧ Aside0 (kq ≤ k4) ∧ Aside0 (Kd.R (Kd.int .i64) 3 wc w.heap.size (fun _ => True) (.slice Ao21 x10_1.length co21) x10_1) ∧ Aside0 (Kd.R k41 41 wc w.heap.size (fun _ => True) (.slice Ao41 t317.length co41) t317) ∧ Aside0 (Below w.heap.size w wc))
                          case first =>
                            have H := HC40.out
                            clear HC40
                            by_cases c42 : x9_4 = true
                            · subst c42
                              have H1 : (if t319 = 0 then (if x17_4 = t315 then (wageofficelaw41_ReclaimSchedules.j5 k4 a3 (t318 == (mx 0 (wrap64 (t315 - x19_3)))) x10_1 t315 t316 t317 t318) else (none)) else (none)) = some r := by rw [if_pos rfl] at H; exact H
                              clear H
                              have H := H1
                              clear H1
                              by_cases c43 : t319 = 0
                              · rw [if_pos c43] at H
                                have c43b0 : (t319 == 0) = true := beq_iff_eq.mpr c43
                                have c43b1 : (t319 != 0) = false := bne_eq_false_iff_eq.mpr c43
                                clear c43
                                (first | rw [c43b0] | (simp only [i64_w, i32_w]; rw [c43b0]) | skip)
                                by_cases c44 : x17_4 = t315
                                · rw [if_pos c44] at H
                                  have c44b0 : (x17_4 == t315) = true := beq_iff_eq.mpr c44
                                  have c44b1 : (x17_4 != t315) = false := bne_eq_false_iff_eq.mpr c44
                                  clear c44
                                  obtain ⟨ji45, hji45⟩ : ∃ j_ : Int, (mx 0 (wrap64 (t315 - x19_3))) = j_ := ⟨_, rfl⟩
                                  replace H : (wageofficelaw41_ReclaimSchedules.j5 k4 a3 (t318 == (ji45)) x10_1 t315 t316 t317 t318) = some r := by first | (rw [hji45] at H; exact H) | (simp only [hji45] at H ⊢; exact H)
                                  have hji45_ : (if 0 < (wrap64 (t315 - x19_3)) then (wrap64 (t315 - x19_3)) else 0) = ji45 := hji45
                                  have H' := Aside0.mk H
                                  clear H
                                  go_wp2
                                  repeat (go_quiet (fail); try go_wp2)
                                  go_meet
                                  case rel => exact ⟨_, ((t318 == (ji45))), (by first | rfl | (simp; done) | (simp only [← hji45] <;> (first | rfl | (simp; done) | (rw [Int.tdiv_eq_ediv_of_nonneg (by unfold mx; split <;> omega)]))) | (simp [*]; done)), H', ⟨by have := HK1.out; have := HJ9.out; have := HK3.out; have := HK4.out; first | omega | exact Nat.le_refl _⟩, ⟨by (with_reducible repeat (first | apply Kd.R_alloc | apply Kd.R_drewN | apply Kd.R_drew)); exact HO_10.out⟩, ⟨by (with_reducible repeat (first | apply Kd.R_alloc | apply Kd.R_drewN | apply Kd.R_drew)); exact HO_14.out⟩, ⟨by repeat (first | (with_reducible first | exact HB.out | apply below_alloc | apply pw_below_drewN | apply below_drew1) | exact HB.out)⟩⟩
                                · rw [if_neg c44] at H
                                  exact absurd H (by simp)
                              · rw [if_neg c43] at H
                                exact absurd H (by simp)
                            · replace c42 := Bool.eq_false_iff.mpr c42
                              subst c42
                              have H1 : (none) = some r := by rw [if_neg (show ¬ (false = true) by decide)] at H; exact H
                              clear H
                              have H := H1
                              clear H1
                              exact absurd H (by simp)
                          case rest =>
                            clear HC40
                            try clear c1
                            try clear c2
                            try clear p2
                            try clear c3
                            try clear p3
                            try clear q3
                            try clear hx3
                            try clear c4
                            try clear c6
                            try clear c6b0
                            try clear c6b1
                            try clear p6
                            try clear c7
                            try clear c11
                            try clear c11b0
                            try clear c12
                            try clear c13
                            try clear c13b0
                            try clear c14
                            try clear c14b0
                            try clear c16
                            try clear c23
                            try clear c23b0
                            try clear c24
                            try clear c24b0
                            try clear c26
                            try clear c26b0
                            try clear c27
                            try clear c27b0
                            try clear c30
                            try clear c30b0
                            try clear c31
                            try clear p31
                            try clear q31
                            try clear hx31
                            try clear c32
                            try clear p32
                            try clear q32
                            try clear hx32
                            try clear c33
                            try clear c33b0
                            try clear c34
                            try clear c34b0
                            try clear c35
                            try clear c35b0
                            try clear c36
                            try clear c36b0
                            try clear c38
                            try clear c38b0
                            try clear c39
                            try clear c39b0
                            try clear c42
                            try clear c43
                            try clear c43b0
                            try clear c43b1
                            try clear c44
                            try clear c44b0
                            try clear c44b1
                            try clear hx310_0
                            try clear hx322_0
                            try clear hx323_0
                            try clear hx323_1
                            try clear hx324_0
                            try clear hx324_1
                            try clear hx325_0
                            try clear hx325_1
                            try clear hx326_0
                            try clear hx326_1
                            try clear hx327_0
                            try clear hx328_0
                            try clear hx328_1
                            try clear hx329_0
                            try clear hx329_1
                            try clear p2
                            try clear p3
                            try clear p310
                            try clear p322
                            try clear p323
                            try clear p324
                            try clear p325
                            try clear p326
                            try clear p327
                            try clear p328
                            try clear p329
                            try clear p6
                            try clear q3
                            try clear q310
                            try clear q322
                            try clear q323
                            try clear q324
                            try clear q325
                            try clear q326
                            try clear q327
                            try clear q328
                            try clear q329
                            obtain ⟨kq, x9_39, rfl, HA, HJ39, HO_10, HO_14, HB⟩ := hcut
                            cases kq with
                            | zero => exact absurd HA.out (by simp [wageofficelaw41_ReclaimSchedules.j5])
                            | succ kj39 =>
                              have H := HA.out
                              clear HA
                              simp only [wageofficelaw41_ReclaimSchedules.j5] at H
                              replace H := Option.bind_eq_some_iff.mp H
                              obtain ⟨t336, A460, H⟩ := H
                              replace H : (if 0 ≤ t336 then (if t336 ≤ (x10_1.length : Int) then ((reclaim_Schedule.f kj39 t315 t316 (x10_1.take (t336 : Int).toNat)).bind fun bt341 => ((reclaim_Schedule.f kj39 bt341.2.1 (wrap64 (t316 + t336)) (x10_1.drop (t336 : Int).toNat)).bind fun bt350 => (if 40 ≤ 17592186044416 then ((some (([] : List (S41)) : List (S41))).bind fun y355 => (if y355.length + bt341.1.length < 8796093022208 then ((some (y355 ++ bt341.1 : List (S41))).bind fun y358 => (if y358.length + bt350.1.length < 8796093022208 then (if x9_39 = true then (if bt341.2.2 = 0 then (if bt350.2.2 = 0 then (if bt350.2.1 = t318 then ((wageofficeref41_SamePlan.f kj39 (y358 ++ bt350.1) t317).bind fun t364 => (some t364)) else (none)) else (none)) else (none)) else (none)) else (none))) else (none))) else (none)))) else (none)) else (none)) = some r := H
                              have A46 := Aside0.mk A460
                              clear A460
                              by_cases c47 : 0 ≤ t336
                              · rw [if_pos c47] at H
                                have c47b0 := eq_true c47
                                have c47b1 : decide (0 ≤ t336) = true := decide_eq_true c47
                                clear c47
                                by_cases c48 : t336 ≤ (x10_1.length : Int)
                                · rw [if_pos c48] at H
                                  have c48b0 := eq_true c48
                                  have c48b1 : decide (t336 ≤ (x10_1.length : Int)) = true := decide_eq_true c48
                                  clear c48
                                  obtain ⟨y337, hy337⟩ : ∃ y_ : List Int, y_ = (x10_1.take (t336 : Int).toNat) := ⟨_, rfl⟩
                                  replace H : ((reclaim_Schedule.f kj39 t315 t316 y337).bind fun bt341 => ((reclaim_Schedule.f kj39 bt341.2.1 (wrap64 (t316 + t336)) (x10_1.drop (t336 : Int).toNat)).bind fun bt350 => (if 40 ≤ 17592186044416 then ((some (([] : List (S41)) : List (S41))).bind fun y355 => (if y355.length + bt341.1.length < 8796093022208 then ((some (y355 ++ bt341.1 : List (S41))).bind fun y358 => (if y358.length + bt350.1.length < 8796093022208 then (if x9_39 = true then (if bt341.2.2 = 0 then (if bt350.2.2 = 0 then (if bt350.2.1 = t318 then ((wageofficeref41_SamePlan.f kj39 (y358 ++ bt350.1) t317).bind fun t364 => (some t364)) else (none)) else (none)) else (none)) else (none)) else (none))) else (none))) else (none)))) = some r := by first | (rw [hy337]; with_reducible exact H) | (have H2_ := (Option.bind_some _ _).symm.trans H; rw [hy337]; with_reducible exact H2_) | (have H2_ := (Option.bind_some _ _).symm.trans H; with_reducible exact H2_) | with_reducible exact H | (rw [hy337]; exact H) | exact H
                                  have Ny337 := Aside0.mk hy337
                                  clear hy337
                                  replace H := Option.bind_eq_some_iff.mp H
                                  obtain ⟨⟨t341, t342, t343⟩, A490, H⟩ := H
                                  replace H : ((reclaim_Schedule.f kj39 t342 (wrap64 (t316 + t336)) (x10_1.drop (t336 : Int).toNat)).bind fun bt350 => (if 40 ≤ 17592186044416 then ((some (([] : List (S41)) : List (S41))).bind fun y355 => (if y355.length + t341.length < 8796093022208 then ((some (y355 ++ t341 : List (S41))).bind fun y358 => (if y358.length + bt350.1.length < 8796093022208 then (if x9_39 = true then (if t343 = 0 then (if bt350.2.2 = 0 then (if bt350.2.1 = t318 then ((wageofficeref41_SamePlan.f kj39 (y358 ++ bt350.1) t317).bind fun t364 => (some t364)) else (none)) else (none)) else (none)) else (none)) else (none))) else (none))) else (none))) = some r := H
                                  have A49 := Aside0.mk A490
                                  clear A490
                                  have c50b0 := eq_true (of_decide_eq_true (by first | (with_reducible assumption) | assumption) : 0 ≤ t336)
                                  have c51b0 := eq_true (of_decide_eq_true (by first | (with_reducible assumption) | assumption) : t336 ≤ (x10_1.length : Int))
                                  obtain ⟨y346, hy346⟩ : ∃ y_ : List Int, y_ = (x10_1.drop (t336 : Int).toNat) := ⟨_, rfl⟩
                                  replace H : ((reclaim_Schedule.f kj39 t342 (wrap64 (t316 + t336)) y346).bind fun bt350 => (if 40 ≤ 17592186044416 then ((some (([] : List (S41)) : List (S41))).bind fun y355 => (if y355.length + t341.length < 8796093022208 then ((some (y355 ++ t341 : List (S41))).bind fun y358 => (if y358.length + bt350.1.length < 8796093022208 then (if x9_39 = true then (if t343 = 0 then (if bt350.2.2 = 0 then (if bt350.2.1 = t318 then ((wageofficeref41_SamePlan.f kj39 (y358 ++ bt350.1) t317).bind fun t364 => (some t364)) else (none)) else (none)) else (none)) else (none)) else (none))) else (none))) else (none))) = some r := by first | (rw [hy346]; with_reducible exact H) | (have H2_ := (Option.bind_some _ _).symm.trans H; rw [hy346]; with_reducible exact H2_) | (have H2_ := (Option.bind_some _ _).symm.trans H; with_reducible exact H2_) | with_reducible exact H | (rw [hy346]; exact H) | exact H
                                  have Ny346 := Aside0.mk hy346
                                  clear hy346
                                  replace H := Option.bind_eq_some_iff.mp H
                                  obtain ⟨⟨t350, t351, t352⟩, A520, H⟩ := H
                                  replace H : (if 40 ≤ 17592186044416 then ((some (([] : List (S41)) : List (S41))).bind fun y355 => (if y355.length + t341.length < 8796093022208 then ((some (y355 ++ t341 : List (S41))).bind fun y358 => (if y358.length + t350.length < 8796093022208 then (if x9_39 = true then (if t343 = 0 then (if t352 = 0 then (if t351 = t318 then ((wageofficeref41_SamePlan.f kj39 (y358 ++ t350) t317).bind fun t364 => (some t364)) else (none)) else (none)) else (none)) else (none)) else (none))) else (none))) else (none)) = some r := H
                                  have A52 := Aside0.mk A520
                                  clear A520
                                  by_cases c53 : 40 ≤ 17592186044416
                                  · rw [if_pos c53] at H
                                    have c53b0 := eq_true c53
                                    have c53b1 : decide (40 ≤ 17592186044416) = true := decide_eq_true c53
                                    clear c53
                                    obtain ⟨y355, hy355⟩ : ∃ y_ : List (S41), y_ = (([] : List (S41))) := ⟨_, rfl⟩
                                    replace H : (if y355.length + t341.length < 8796093022208 then ((some (y355 ++ t341 : List (S41))).bind fun y358 => (if y358.length + t350.length < 8796093022208 then (if x9_39 = true then (if t343 = 0 then (if t352 = 0 then (if t351 = t318 then ((wageofficeref41_SamePlan.f kj39 (y358 ++ t350) t317).bind fun t364 => (some t364)) else (none)) else (none)) else (none)) else (none)) else (none))) else (none)) = some r := by first | (rw [hy355]; with_reducible exact H) | (have H2_ := (Option.bind_some _ _).symm.trans H; rw [hy355]; with_reducible exact H2_) | (have H2_ := (Option.bind_some _ _).symm.trans H; with_reducible exact H2_) | with_reducible exact H | (rw [hy355]; exact H) | exact H
                                    have Ny355 := Aside0.mk hy355
                                    clear hy355
                                    by_cases c54 : y355.length + t341.length < 8796093022208
                                    · rw [if_pos c54] at H
                                      have LMc54 := Aside0.mk c54
                                      clear c54
                                      obtain ⟨y358, hy358⟩ : ∃ y_ : List (S41), y_ = (y355 ++ t341) := ⟨_, rfl⟩
                                      replace H : (if y358.length + t350.length < 8796093022208 then (if x9_39 = true then (if t343 = 0 then (if t352 = 0 then (if t351 = t318 then ((wageofficeref41_SamePlan.f kj39 (y358 ++ t350) t317).bind fun t364 => (some t364)) else (none)) else (none)) else (none)) else (none)) else (none)) = some r := by first | (rw [hy358]; with_reducible exact H) | (have H2_ := (Option.bind_some _ _).symm.trans H; rw [hy358]; with_reducible exact H2_) | (have H2_ := (Option.bind_some _ _).symm.trans H; with_reducible exact H2_) | with_reducible exact H | (rw [hy358]; exact H) | exact H
                                      have Ny358 := Aside0.mk hy358
                                      clear hy358
                                      by_cases c55 : y358.length + t350.length < 8796093022208
                                      · rw [if_pos c55] at H
                                        have LMc55 := Aside0.mk c55
                                        clear c55
                                        obtain ⟨y361, hy361⟩ : ∃ y_ : List (S41), y_ = (y358 ++ t350) := ⟨_, rfl⟩
                                        replace H : (if x9_39 = true then (if t343 = 0 then (if t352 = 0 then (if t351 = t318 then ((wageofficeref41_SamePlan.f kj39 y361 t317).bind fun t364 => (some t364)) else (none)) else (none)) else (none)) else (none)) = some r := by first | (rw [hy361]; with_reducible exact H) | (have H2_ := (Option.bind_some _ _).symm.trans H; rw [hy361]; with_reducible exact H2_) | (have H2_ := (Option.bind_some _ _).symm.trans H; with_reducible exact H2_) | with_reducible exact H | (rw [hy361]; exact H) | exact H
                                        have Ny361 := Aside0.mk hy361
                                        clear hy361
                                        by_cases c56 : x9_39 = true
                                        · subst c56
                                          have H1 : (if t343 = 0 then (if t352 = 0 then (if t351 = t318 then ((wageofficeref41_SamePlan.f kj39 y361 t317).bind fun t364 => (some t364)) else (none)) else (none)) else (none)) = some r := by rw [if_pos rfl] at H; exact H
                                          clear H
                                          have H := H1
                                          clear H1
                                          by_cases c57 : t343 = 0
                                          · rw [if_pos c57] at H
                                            have c57b0 : (t343 == 0) = true := beq_iff_eq.mpr c57
                                            have c57b1 : (t343 != 0) = false := bne_eq_false_iff_eq.mpr c57
                                            clear c57
                                            by_cases c58 : t352 = 0
                                            · rw [if_pos c58] at H
                                              have c58b0 : (t352 == 0) = true := beq_iff_eq.mpr c58
                                              have c58b1 : (t352 != 0) = false := bne_eq_false_iff_eq.mpr c58
                                              clear c58
                                              by_cases c59 : t351 = t318
                                              · rw [if_pos c59] at H
                                                have c59b0 : (t351 == t318) = true := beq_iff_eq.mpr c59
                                                have c59b1 : (t351 != t318) = false := bne_eq_false_iff_eq.mpr c59
                                                clear c59
                                                replace H := Option.bind_eq_some_iff.mp H
                                                obtain ⟨t364, A600, H⟩ := H
                                                replace H : (some t364) = some r := H
                                                have A60 := Aside0.mk A600
                                                clear A600
                                                obtain rfl := Option.some.inj H
                                                go_wp2_with (first | (go_at_call 14; (with_reducible refine (wageofficelaw41_pick.calls a3 (wrap64 ((x10_1.length : Int) + 1)) t336 _ A46.out).mono ?_); rintro e w' ⟨rfl, ⟨nd, rfl⟩⟩; (try first | exact ⟨rfl, _, World.drewN_drewN _ _ _⟩ | exact ⟨rfl, _, Eq.trans (World.drewN_drewN _ _ _) (congrArg (World.drewN _) (Nat.add_assoc _ _ _))⟩); have q61 : (t336 : Int) ≤ ((x10_1.length : Int) : Int) := of_decide_eq_true (by first | (with_reducible assumption) | assumption); obtain ⟨i061, hi061, _, hsz61, _⟩ := info_parts info3; have hroom61 : x10_1.length ≤ co21 := (Kd.R_reads' HO_10.out).2.1; have hC61 : Kd.C (Kd.int .i64) _ Ao21 x10_1.length x10_1 := (Kd.R_reads' HO_10.out).2.2; have hcut61 := cut_to (P := Try.prog) 22 3 .i64 Try.underlying22 hi061 Ao21 x10_1.length co21 t336 (of_decide_eq_true (by first | (with_reducible assumption) | assumption)) q61 hroom61; have hr61 := Kd.C_take (m := (t336 : Int).toNat) hC61 (by omega); have hy61 : y337.length = (t336 : Int).toNat := (by rw [Ny337.out, List.length_take]; omega); rw [← Ny337.out] at hr61; rw [← hy61] at hcut61; have HR340 := Aside0.mk hr61; have HC340 := Aside0.mk (show y337.length ≤ co21 from by omega); clear hr61 hC61 hroom61 hi061 hsz61; have KY61 := Aside0.mk hy61; clear hy61; have KL61 := Aside0.mk (show (t336 : Int).toNat ≤ x10_1.length from by omega); replace q61 := eq_true q61) | (go_at_call 12; (with_reducible refine (reclaim_Schedule.calls kj39 t315 t316 _ _ y337 t341 t342 t343 _ ?side1 ?side2 A49.out).mono ?_); (case side1 => repeat (first | exact (by repeat (first | (with_reducible exact HR340.out) | (with_reducible refine Kd.C_alloc ?_ _) | (with_reducible refine Kd.C_drewN ?_ _) | (with_reducible refine Kd.C_drew ?_) | exact HR340.out)) | (with_reducible refine Kd.C_alloc ?_ _) | (with_reducible refine Kd.C_drewN ?_ _) | (with_reducible refine Kd.C_drew ?_))); (case side2 => exact HC340.out); rintro e w62 ⟨v344, rfl, ho0, hb⟩; have n0_ := Aside0.mk (Kd.R_below (by (with_reducible repeat (first | apply Kd.R_alloc | apply Kd.R_drewN | apply Kd.R_drew)); exact HO_10.out) hb); have n1_ := Aside0.mk (Kd.R_elder' (by (with_reducible repeat (first | apply Kd.R_alloc | apply Kd.R_drewN | apply Kd.R_drew)); exact HO_14.out) (Kd.R_base ho0) hb); have n2_ := Aside0.mk (Kd.R_lower (Kd.R_new' ho0 (Kd.R_lt (by (with_reducible repeat (first | apply Kd.R_alloc | apply Kd.R_drewN | apply Kd.R_drew)); exact HO_14.out))) (below_size (by repeat (first | (with_reducible first | exact HB.out | apply below_alloc | apply pw_below_drewN | apply below_drew1) | exact HB.out)))); have n3_ := Aside0.mk (Kd.C_below (by repeat (first | (with_reducible exact HR340.out) | (with_reducible refine Kd.C_alloc ?_ _) | (with_reducible refine Kd.C_drewN ?_ _) | (with_reducible refine Kd.C_drew ?_) | exact HR340.out)) hb); have n4_ := Aside0.mk (below_step (by repeat (first | (with_reducible first | exact HB.out | apply below_alloc | apply pw_below_drewN | apply below_drew1) | exact HB.out)) hb); clear HO_10; clear HO_14; clear HR340; clear HB; have HO_10 := n0_; have HO_14 := n1_; have HO345 := n2_; have HR340 := n3_; have HB := n4_; clear n0_ n1_ n2_ n3_ n4_; (try clear hb); (try clear hb2); (try clear hk); (try clear hi); (try clear ho0); have q63 : (t336 : Int) ≤ ((x10_1.length : Int) : Int) := of_decide_eq_true (by first | (with_reducible assumption) | assumption); obtain ⟨i063, hi063, _, hsz63, _⟩ := info_parts info3; have hroom63 : x10_1.length ≤ co21 := (Kd.R_reads' HO_10.out).2.1; have hC63 : Kd.C (Kd.int .i64) _ Ao21 x10_1.length x10_1 := (Kd.R_reads' HO_10.out).2.2; have q063 : (0 : Int) ≤ (t336 : Int) := of_decide_eq_true (by first | (with_reducible assumption) | assumption); have hcut63 := cut_from (P := Try.prog) 22 3 .i64 Try.underlying22 hi063 1 hsz63 Ao21 x10_1.length co21 t336 q063 q63; have hr63 := Kd.C_drop (m := (t336 : Int).toNat) (c := co21) hC63 (by omega) hroom63; obtain ⟨A63, hA63⟩ : ∃ A1, A1 = (if co21 = (t336 : Int).toNat then Ao21 else (Ao21 : Option Addr).map (·.add ((t336 : Int).toNat * 1))) := ⟨_, rfl⟩; obtain ⟨c63, hc63⟩ : ∃ c1, c1 = co21 - (t336 : Int).toNat := ⟨_, rfl⟩; have hy63 : y346.length = x10_1.length - (t336 : Int).toNat := (by rw [Ny346.out, List.length_drop] <;> omega); rw [show (x10_1).drop (t336 : Int).toNat = y346 from Ny346.out.symm] at hr63; replace hr63 : Kd.C (Kd.int .i64) _ A63 y346.length y346 := (by rw [hA63]; exact hr63); rw [← hy63, ← hA63, ← hc63] at hcut63; have HR349 := Aside0.mk hr63; have HC349 := Aside0.mk (show y346.length ≤ c63 from by rw [hy63, hc63]; exact Nat.sub_le_sub_right hroom63 _); clear hr63 hC63 hroom63 hi063 hsz63 hc63; have KY63 := Aside0.mk hy63; have KA63 := Aside0.mk hA63; clear hy63 hA63; have KL63 := Aside0.mk (show (t336 : Int).toNat ≤ x10_1.length from by omega); replace q63 := eq_true q63) | (go_at_call 12; (with_reducible refine (reclaim_Schedule.calls kj39 t342 (wrap64 (t316 + t336)) _ _ y346 t350 t351 t352 _ ?side1 ?side2 A52.out).mono ?_); (case side1 => repeat (first | exact (by repeat (first | (with_reducible exact HR349.out) | (with_reducible refine Kd.C_alloc ?_ _) | (with_reducible refine Kd.C_drewN ?_ _) | (with_reducible refine Kd.C_drew ?_) | exact HR349.out)) | (with_reducible refine Kd.C_alloc ?_ _) | (with_reducible refine Kd.C_drewN ?_ _) | (with_reducible refine Kd.C_drew ?_))); (case side2 => exact HC349.out); rintro e w64 ⟨v353, rfl, ho0, hb⟩; have n0_ := Aside0.mk (Kd.R_below (by (with_reducible repeat (first | apply Kd.R_alloc | apply Kd.R_drewN | apply Kd.R_drew)); exact HO_10.out) hb); have n1_ := Aside0.mk (Kd.R_elder' (by (with_reducible repeat (first | apply Kd.R_alloc | apply Kd.R_drewN | apply Kd.R_drew)); exact HO_14.out) (Kd.R_base ho0) hb); have n2_ := Aside0.mk (Kd.R_elder' (by (with_reducible repeat (first | apply Kd.R_alloc | apply Kd.R_drewN | apply Kd.R_drew)); exact HO345.out) (Kd.R_base ho0) hb); have n3_ := Aside0.mk (Kd.R_lower (Kd.R_new' (Kd.R_new' ho0 (Kd.R_lt (by (with_reducible repeat (first | apply Kd.R_alloc | apply Kd.R_drewN | apply Kd.R_drew)); exact HO_14.out))) (Kd.R_lt (by (with_reducible repeat (first | apply Kd.R_alloc | apply Kd.R_drewN | apply Kd.R_drew)); exact HO345.out))) (below_size (by repeat (first | (with_reducible first | exact HB.out | apply below_alloc | apply pw_below_drewN | apply below_drew1) | exact HB.out)))); have n4_ := Aside0.mk (Kd.C_below (by repeat (first | (with_reducible exact HR340.out) | (with_reducible refine Kd.C_alloc ?_ _) | (with_reducible refine Kd.C_drewN ?_ _) | (with_reducible refine Kd.C_drew ?_) | exact HR340.out)) hb); have n5_ := Aside0.mk (Kd.C_below (by repeat (first | (with_reducible exact HR349.out) | (with_reducible refine Kd.C_alloc ?_ _) | (with_reducible refine Kd.C_drewN ?_ _) | (with_reducible refine Kd.C_drew ?_) | exact HR349.out)) hb); have n6_ := Aside0.mk (below_step (by repeat (first | (with_reducible first | exact HB.out | apply below_alloc | apply pw_below_drewN | apply below_drew1) | exact HB.out)) hb); clear HO_10; clear HO_14; clear HO345; clear HR340; clear HR349; clear HB; have HO_10 := n0_; have HO_14 := n1_; have HO345 := n2_; have HO354 := n3_; have HR340 := n4_; have HR349 := n5_; have HB := n6_; clear n0_ n1_ n2_ n3_ n4_ n5_ n6_; (try clear hb); (try clear hb2); (try clear hk); (try clear hi); (try clear ho0)) | ((with_reducible refine gate_dst (N := 190) rfl ?_); (try (refine gate_guard (by rfl) ?_; dsimp only)); refine Go.Proofs.Ytpgghakjbghagaa.HWords.R_make0 k41 _ 41 rfl (N := 190) rfl 30 _ _ rfl 40 rfl rfl Try.underlying30 (.agg #[(.int .i64 0), (.int .i64 0)]) 16 info41 (by omega) (ok := fun _ => True) (fun _ _ => trivial) (by omega) (by omega) (Below.refl _ _) (Nat.le_refl _) ?_; intro v356 w65 ho66 hb hg_ hnew_; clear hg_ hnew_; (first | rw [← Ny355.out] at ho66 | (simp only [Int.reduceToNat] at ho66; rw [← Ny355.out] at ho66)); have n0_ := Aside0.mk (Kd.R_below (by (with_reducible repeat (first | apply Kd.R_alloc | apply Kd.R_drewN | apply Kd.R_drew)); exact HO_10.out) hb); have n1_ := Aside0.mk (Kd.R_elder' (by (with_reducible repeat (first | apply Kd.R_alloc | apply Kd.R_drewN | apply Kd.R_drew)); exact HO_14.out) (Kd.R_base ho66) hb); have n2_ := Aside0.mk (Kd.R_elder' (by (with_reducible repeat (first | apply Kd.R_alloc | apply Kd.R_drewN | apply Kd.R_drew)); exact HO345.out) (Kd.R_base ho66) hb); have n3_ := Aside0.mk (Kd.R_elder' (by (with_reducible repeat (first | apply Kd.R_alloc | apply Kd.R_drewN | apply Kd.R_drew)); exact HO354.out) (Kd.R_base ho66) hb); have n4_ := Aside0.mk (Kd.R_lower (Kd.R_new' (Kd.R_new' (Kd.R_new' ho66 (Kd.R_lt (by (with_reducible repeat (first | apply Kd.R_alloc | apply Kd.R_drewN | apply Kd.R_drew)); exact HO_14.out))) (Kd.R_lt (by (with_reducible repeat (first | apply Kd.R_alloc | apply Kd.R_drewN | apply Kd.R_drew)); exact HO345.out))) (Kd.R_lt (by (with_reducible repeat (first | apply Kd.R_alloc | apply Kd.R_drewN | apply Kd.R_drew)); exact HO354.out))) (below_size (by repeat (first | (with_reducible first | exact HB.out | apply below_alloc | apply pw_below_drewN | apply below_drew1) | exact HB.out)))); have n5_ := Aside0.mk (Kd.C_below (by repeat (first | (with_reducible exact HR340.out) | (with_reducible refine Kd.C_alloc ?_ _) | (with_reducible refine Kd.C_drewN ?_ _) | (with_reducible refine Kd.C_drew ?_) | exact HR340.out)) hb); have n6_ := Aside0.mk (Kd.C_below (by repeat (first | (with_reducible exact HR349.out) | (with_reducible refine Kd.C_alloc ?_ _) | (with_reducible refine Kd.C_drewN ?_ _) | (with_reducible refine Kd.C_drew ?_) | exact HR349.out)) hb); have n7_ := Aside0.mk (below_step (by repeat (first | (with_reducible first | exact HB.out | apply below_alloc | apply pw_below_drewN | apply below_drew1) | exact HB.out)) hb); clear HO_10; clear HO_14; clear HO345; clear HO354; clear HR340; clear HR349; clear HB; have HO_10 := n0_; have HO_14 := n1_; have HO345 := n2_; have HO354 := n3_; have HO357 := n4_; have HR340 := n5_; have HR349 := n6_; have HB := n7_; clear n0_ n1_ n2_ n3_ n4_ n5_ n6_ n7_; clear hb ho66; obtain ⟨Ao68, co68, eo68⟩ := Kd.R_slice HO345.out; subst eo68) | ((with_reducible refine gate_builtin (b := .append) (xs := #[.tmp 190, .tmp 191]) rfl ?_); (try (refine gate_guard (by rfl) ?_; dsimp only)); at_builtin; refine Kd.R_append_rows k41 (w0 := w) w.heap.size rfl (.tmp 190) (.tmp 191) 30 41 (.agg #[(.int .i64 0), (.int .i64 0)]) 16 rfl Try.underlying30 info41 rfl (by decide) (by omega) v356 y355 t341 _ _ _ (fun k_ => some k_ ≠ (.slice Ao41 t317.length co41 : Value).ownBlock ∧ some k_ ≠ (.slice Ao68 t341.length co68 : Value).ownBlock ∧ some k_ ≠ (v353 : Value).ownBlock) (fun _ => False) rfl rfl ?aO ?aR (fun _ _ h => h) (fun _ h => h.elim) ?aF ?aB ?aS ?aL ?_; (case aR => repeat (first | exact (Kd.R_reads' HO345.out).2.2 | (with_reducible refine Kd.C_alloc ?_ _) | (with_reducible refine Kd.C_drewN ?_ _) | (with_reducible refine Kd.C_drew ?_))); (case aB => exact (by repeat (first | (with_reducible first | exact HB.out | apply below_alloc | apply pw_below_drewN | apply below_drew1) | exact HB.out))); (case aF => exact (fun k_ hk => ⟨Kd.fresh' (Kd.R_lt (by (with_reducible repeat (first | apply Kd.R_alloc | apply Kd.R_drewN | apply Kd.R_drew)); exact HO_14.out)) k_ hk, Kd.fresh' (Kd.R_lt (by (with_reducible repeat (first | apply Kd.R_alloc | apply Kd.R_drewN | apply Kd.R_drew)); exact HO345.out)) k_ hk, Kd.fresh' (Kd.R_lt (by (with_reducible repeat (first | apply Kd.R_alloc | apply Kd.R_drewN | apply Kd.R_drew)); exact HO354.out)) k_ hk⟩)); (case aO => exact (by (with_reducible repeat (first | apply Kd.R_alloc | apply Kd.R_drewN | apply Kd.R_drew)); exact Kd.R_mono HO357.out (fun _ hk => ⟨hk.1.1.2, ⟨hk.1.2, hk.2⟩⟩))); (case aS => exact (below_size (by repeat (first | (with_reducible first | exact HB.out | apply below_alloc | apply pw_below_drewN | apply below_drew1) | exact HB.out)))); (case aL => have := LMc54.out; omega); intro v359 w67 ho hb hg hat; rw [← Ny358.out] at ho; have n0_ := Aside0.mk (Kd.R_over' (by (with_reducible repeat (first | apply Kd.R_alloc | apply Kd.R_drewN | apply Kd.R_drew)); exact HO_10.out) (Kd.R_typed (by (with_reducible repeat (first | apply Kd.R_alloc | apply Kd.R_drewN | apply Kd.R_drew)); exact HO357.out)) (by decide) hg); have n1_ := Aside0.mk (Kd.R_after (ok := (fun k_ => some k_ ≠ (.slice Ao68 t341.length co68 : Value).ownBlock ∧ some k_ ≠ (v353 : Value).ownBlock)) (by (with_reducible repeat (first | apply Kd.R_alloc | apply Kd.R_drewN | apply Kd.R_drew)); exact Kd.R_mono HO_14.out (fun _ hk => ⟨⟨hk.1.1.2, hk.1.2⟩, hk.2⟩)) hg hat); have n2_ := Aside0.mk (Kd.R_after (ok := (fun k_ => some k_ ≠ (.slice Ao41 t317.length co41 : Value).ownBlock ∧ some k_ ≠ (v353 : Value).ownBlock)) (by (with_reducible repeat (first | apply Kd.R_alloc | apply Kd.R_drewN | apply Kd.R_drew)); exact Kd.R_mono HO345.out (fun _ hk => ⟨⟨hk.1.1.2, hk.1.2⟩, hk.2⟩)) hg hat); have n3_ := Aside0.mk (Kd.R_after (ok := (fun k_ => some k_ ≠ (.slice Ao41 t317.length co41 : Value).ownBlock ∧ some k_ ≠ (.slice Ao68 t341.length co68 : Value).ownBlock)) (by (with_reducible repeat (first | apply Kd.R_alloc | apply Kd.R_drewN | apply Kd.R_drew)); exact Kd.R_mono HO354.out (fun _ hk => ⟨⟨hk.1.1.2, hk.1.2⟩, hk.2⟩)) hg hat); have n4_ := Aside0.mk (hb); have n5_ := Aside0.mk ((show Kd.C (Kd.int .i64) w67 Ao21 y337.length y337 from by rw [Ny337.out]; exact Kd.C_take (m := (t336 : Int).toNat) ((Kd.R_reads' (Kd.R_over' (by (with_reducible repeat (first | apply Kd.R_alloc | apply Kd.R_drewN | apply Kd.R_drew)); exact HO_10.out) (Kd.R_typed (by (with_reducible repeat (first | apply Kd.R_alloc | apply Kd.R_drewN | apply Kd.R_drew)); exact HO357.out)) (by decide) hg)).2.2) KL61.out)); have n6_ := Aside0.mk ((show Kd.C (Kd.int .i64) w67 A63 y346.length y346 from by rw [Ny346.out, KA63.out]; exact Kd.C_drop (m := (t336 : Int).toNat) (c := co21) ((Kd.R_reads' (Kd.R_over' (by (with_reducible repeat (first | apply Kd.R_alloc | apply Kd.R_drewN | apply Kd.R_drew)); exact HO_10.out) (Kd.R_typed (by (with_reducible repeat (first | apply Kd.R_alloc | apply Kd.R_drewN | apply Kd.R_drew)); exact HO357.out)) (by decide) hg)).2.2) KL63.out ((Kd.R_reads' (Kd.R_over' (by (with_reducible repeat (first | apply Kd.R_alloc | apply Kd.R_drewN | apply Kd.R_drew)); exact HO_10.out) (Kd.R_typed (by (with_reducible repeat (first | apply Kd.R_alloc | apply Kd.R_drewN | apply Kd.R_drew)); exact HO357.out)) (by decide) hg)).2.1))); have n7_ := Aside0.mk (ho); clear HO_10; clear HO_14; clear HO345; clear HO354; clear HB; clear HR340; clear HR349; clear HO357; have HO_10 := n0_; have HO_14 := n1_; have HO345 := n2_; have HO354 := n3_; have HB := n4_; have HR340 := n5_; have HR349 := n6_; have HO360 := n7_; clear n0_ n1_ n2_ n3_ n4_ n5_ n6_ n7_; clear ho hb hg hat; obtain ⟨Ao70, co70, eo70⟩ := Kd.R_slice HO354.out; subst eo70) | ((with_reducible refine gate_builtin (b := .append) (xs := #[.tmp 192, .tmp 193]) rfl ?_); (try (refine gate_guard (by rfl) ?_; dsimp only)); at_builtin; refine Kd.R_append_rows k41 (w0 := w) w.heap.size rfl (.tmp 192) (.tmp 193) 30 41 (.agg #[(.int .i64 0), (.int .i64 0)]) 16 rfl Try.underlying30 info41 rfl (by decide) (by omega) v359 y358 t350 _ _ _ (fun k_ => some k_ ≠ (.slice Ao41 t317.length co41 : Value).ownBlock ∧ some k_ ≠ (.slice Ao68 t341.length co68 : Value).ownBlock ∧ some k_ ≠ (.slice Ao70 t350.length co70 : Value).ownBlock) (fun _ => False) rfl rfl ?aO ?aR (fun _ _ h => h) (fun _ h => h.elim) ?aF ?aB ?aS ?aL ?_; (case aR => repeat (first | exact (Kd.R_reads' HO354.out).2.2 | (with_reducible refine Kd.C_alloc ?_ _) | (with_reducible refine Kd.C_drewN ?_ _) | (with_reducible refine Kd.C_drew ?_))); (case aB => exact (by repeat (first | (with_reducible first | exact HB.out | apply below_alloc | apply pw_below_drewN | apply below_drew1) | exact HB.out))); (case aF => exact (fun k_ hk => ⟨Kd.fresh' (Kd.R_lt (by (with_reducible repeat (first | apply Kd.R_alloc | apply Kd.R_drewN | apply Kd.R_drew)); exact HO_14.out)) k_ hk, Kd.fresh' (Kd.R_lt (by (with_reducible repeat (first | apply Kd.R_alloc | apply Kd.R_drewN | apply Kd.R_drew)); exact HO345.out)) k_ hk, Kd.fresh' (Kd.R_lt (by (with_reducible repeat (first | apply Kd.R_alloc | apply Kd.R_drewN | apply Kd.R_drew)); exact HO354.out)) k_ hk⟩)); (case aO => exact (by (with_reducible repeat (first | apply Kd.R_alloc | apply Kd.R_drewN | apply Kd.R_drew)); exact HO360.out)); (case aS => exact (below_size (by repeat (first | (with_reducible first | exact HB.out | apply below_alloc | apply pw_below_drewN | apply below_drew1) | exact HB.out)))); (case aL => have := LMc55.out; omega); intro v362 w69 ho hb hg hat; rw [← Ny361.out] at ho; have n0_ := Aside0.mk (Kd.R_over' (by (with_reducible repeat (first | apply Kd.R_alloc | apply Kd.R_drewN | apply Kd.R_drew)); exact HO_10.out) (Kd.R_typed (by (with_reducible repeat (first | apply Kd.R_alloc | apply Kd.R_drewN | apply Kd.R_drew)); exact HO360.out)) (by decide) hg); have n1_ := Aside0.mk (Kd.R_after (ok := (fun k_ => some k_ ≠ (.slice Ao68 t341.length co68 : Value).ownBlock ∧ some k_ ≠ (.slice Ao70 t350.length co70 : Value).ownBlock)) (by (with_reducible repeat (first | apply Kd.R_alloc | apply Kd.R_drewN | apply Kd.R_drew)); exact HO_14.out) hg hat); have n2_ := Aside0.mk (Kd.R_after (ok := (fun k_ => some k_ ≠ (.slice Ao41 t317.length co41 : Value).ownBlock ∧ some k_ ≠ (.slice Ao70 t350.length co70 : Value).ownBlock)) (by (with_reducible repeat (first | apply Kd.R_alloc | apply Kd.R_drewN | apply Kd.R_drew)); exact HO345.out) hg hat); have n3_ := Aside0.mk (Kd.R_after (ok := (fun k_ => some k_ ≠ (.slice Ao41 t317.length co41 : Value).ownBlock ∧ some k_ ≠ (.slice Ao68 t341.length co68 : Value).ownBlock)) (by (with_reducible repeat (first | apply Kd.R_alloc | apply Kd.R_drewN | apply Kd.R_drew)); exact HO354.out) hg hat); have n4_ := Aside0.mk (hb); have n5_ := Aside0.mk ((show Kd.C (Kd.int .i64) w69 Ao21 y337.length y337 from by rw [Ny337.out]; exact Kd.C_take (m := (t336 : Int).toNat) ((Kd.R_reads' (Kd.R_over' (by (with_reducible repeat (first | apply Kd.R_alloc | apply Kd.R_drewN | apply Kd.R_drew)); exact HO_10.out) (Kd.R_typed (by (with_reducible repeat (first | apply Kd.R_alloc | apply Kd.R_drewN | apply Kd.R_drew)); exact HO360.out)) (by decide) hg)).2.2) KL61.out)); have n6_ := Aside0.mk ((show Kd.C (Kd.int .i64) w69 A63 y346.length y346 from by rw [Ny346.out, KA63.out]; exact Kd.C_drop (m := (t336 : Int).toNat) (c := co21) ((Kd.R_reads' (Kd.R_over' (by (with_reducible repeat (first | apply Kd.R_alloc | apply Kd.R_drewN | apply Kd.R_drew)); exact HO_10.out) (Kd.R_typed (by (with_reducible repeat (first | apply Kd.R_alloc | apply Kd.R_drewN | apply Kd.R_drew)); exact HO360.out)) (by decide) hg)).2.2) KL63.out ((Kd.R_reads' (Kd.R_over' (by (with_reducible repeat (first | apply Kd.R_alloc | apply Kd.R_drewN | apply Kd.R_drew)); exact HO_10.out) (Kd.R_typed (by (with_reducible repeat (first | apply Kd.R_alloc | apply Kd.R_drewN | apply Kd.R_drew)); exact HO360.out)) (by decide) hg)).2.1))); have n7_ := Aside0.mk (ho); clear HO_10; clear HO_14; clear HO345; clear HO354; clear HB; clear HR340; clear HR349; clear HO360; have HO_10 := n0_; have HO_14 := n1_; have HO345 := n2_; have HO354 := n3_; have HB := n4_; have HR340 := n5_; have HR349 := n6_; have HO363 := n7_; clear n0_ n1_ n2_ n3_ n4_ n5_ n6_ n7_; clear ho hb hg hat; obtain ⟨Ao71, co71, eo71⟩ := Kd.R_slice HO363.out; subst eo71) | (go_at_call 16; (with_reducible refine (wageofficeref41_SamePlan.calls kj39 _ _ y361 _ _ t317 t364 _ ?side1 ?side2 ?side3 ?side4 A60.out).mono ?_); (case side1 => repeat (first | exact (Kd.R_reads' HO363.out).2.2 | (with_reducible refine Kd.C_alloc ?_ _) | (with_reducible refine Kd.C_drewN ?_ _) | (with_reducible refine Kd.C_drew ?_))); (case side2 => exact (Kd.R_reads' HO363.out).2.1); (case side3 => repeat (first | exact (Kd.R_reads' HO_14.out).2.2 | (with_reducible refine Kd.C_alloc ?_ _) | (with_reducible refine Kd.C_drewN ?_ _) | (with_reducible refine Kd.C_drew ?_))); (case side4 => exact (Kd.R_reads' HO_14.out).2.1); rintro e w' ⟨rfl, ⟨nd, rfl⟩⟩; (try first | exact ⟨rfl, _, World.drewN_drewN _ _ _⟩ | exact ⟨rfl, _, Eq.trans (World.drewN_drewN _ _ _) (congrArg (World.drewN _) (Nat.add_assoc _ _ _))⟩)))
                                                repeat (go_quiet (first | (go_at_call 14; (with_reducible refine (wageofficelaw41_pick.calls a3 (wrap64 ((x10_1.length : Int) + 1)) t336 _ A46.out).mono ?_); rintro e w' ⟨rfl, ⟨nd, rfl⟩⟩; (try first | exact ⟨rfl, _, World.drewN_drewN _ _ _⟩ | exact ⟨rfl, _, Eq.trans (World.drewN_drewN _ _ _) (congrArg (World.drewN _) (Nat.add_assoc _ _ _))⟩); have q61 : (t336 : Int) ≤ ((x10_1.length : Int) : Int) := of_decide_eq_true (by first | (with_reducible assumption) | assumption); obtain ⟨i061, hi061, _, hsz61, _⟩ := info_parts info3; have hroom61 : x10_1.length ≤ co21 := (Kd.R_reads' HO_10.out).2.1; have hC61 : Kd.C (Kd.int .i64) _ Ao21 x10_1.length x10_1 := (Kd.R_reads' HO_10.out).2.2; have hcut61 := cut_to (P := Try.prog) 22 3 .i64 Try.underlying22 hi061 Ao21 x10_1.length co21 t336 (of_decide_eq_true (by first | (with_reducible assumption) | assumption)) q61 hroom61; have hr61 := Kd.C_take (m := (t336 : Int).toNat) hC61 (by omega); have hy61 : y337.length = (t336 : Int).toNat := (by rw [Ny337.out, List.length_take]; omega); rw [← Ny337.out] at hr61; rw [← hy61] at hcut61; have HR340 := Aside0.mk hr61; have HC340 := Aside0.mk (show y337.length ≤ co21 from by omega); clear hr61 hC61 hroom61 hi061 hsz61; have KY61 := Aside0.mk hy61; clear hy61; have KL61 := Aside0.mk (show (t336 : Int).toNat ≤ x10_1.length from by omega); replace q61 := eq_true q61) | (go_at_call 12; (with_reducible refine (reclaim_Schedule.calls kj39 t315 t316 _ _ y337 t341 t342 t343 _ ?side1 ?side2 A49.out).mono ?_); (case side1 => repeat (first | exact (by repeat (first | (with_reducible exact HR340.out) | (with_reducible refine Kd.C_alloc ?_ _) | (with_reducible refine Kd.C_drewN ?_ _) | (with_reducible refine Kd.C_drew ?_) | exact HR340.out)) | (with_reducible refine Kd.C_alloc ?_ _) | (with_reducible refine Kd.C_drewN ?_ _) | (with_reducible refine Kd.C_drew ?_))); (case side2 => exact HC340.out); rintro e w62 ⟨v344, rfl, ho0, hb⟩; have n0_ := Aside0.mk (Kd.R_below (by (with_reducible repeat (first | apply Kd.R_alloc | apply Kd.R_drewN | apply Kd.R_drew)); exact HO_10.out) hb); have n1_ := Aside0.mk (Kd.R_elder' (by (with_reducible repeat (first | apply Kd.R_alloc | apply Kd.R_drewN | apply Kd.R_drew)); exact HO_14.out) (Kd.R_base ho0) hb); have n2_ := Aside0.mk (Kd.R_lower (Kd.R_new' ho0 (Kd.R_lt (by (with_reducible repeat (first | apply Kd.R_alloc | apply Kd.R_drewN | apply Kd.R_drew)); exact HO_14.out))) (below_size (by repeat (first | (with_reducible first | exact HB.out | apply below_alloc | apply pw_below_drewN | apply below_drew1) | exact HB.out)))); have n3_ := Aside0.mk (Kd.C_below (by repeat (first | (with_reducible exact HR340.out) | (with_reducible refine Kd.C_alloc ?_ _) | (with_reducible refine Kd.C_drewN ?_ _) | (with_reducible refine Kd.C_drew ?_) | exact HR340.out)) hb); have n4_ := Aside0.mk (below_step (by repeat (first | (with_reducible first | exact HB.out | apply below_alloc | apply pw_below_drewN | apply below_drew1) | exact HB.out)) hb); clear HO_10; clear HO_14; clear HR340; clear HB; have HO_10 := n0_; have HO_14 := n1_; have HO345 := n2_; have HR340 := n3_; have HB := n4_; clear n0_ n1_ n2_ n3_ n4_; (try clear hb); (try clear hb2); (try clear hk); (try clear hi); (try clear ho0); have q63 : (t336 : Int) ≤ ((x10_1.length : Int) : Int) := of_decide_eq_true (by first | (with_reducible assumption) | assumption); obtain ⟨i063, hi063, _, hsz63, _⟩ := info_parts info3; have hroom63 : x10_1.length ≤ co21 := (Kd.R_reads' HO_10.out).2.1; have hC63 : Kd.C (Kd.int .i64) _ Ao21 x10_1.length x10_1 := (Kd.R_reads' HO_10.out).2.2; have q063 : (0 : Int) ≤ (t336 : Int) := of_decide_eq_true (by first | (with_reducible assumption) | assumption); have hcut63 := cut_from (P := Try.prog) 22 3 .i64 Try.underlying22 hi063 1 hsz63 Ao21 x10_1.length co21 t336 q063 q63; have hr63 := Kd.C_drop (m := (t336 : Int).toNat) (c := co21) hC63 (by omega) hroom63; obtain ⟨A63, hA63⟩ : ∃ A1, A1 = (if co21 = (t336 : Int).toNat then Ao21 else (Ao21 : Option Addr).map (·.add ((t336 : Int).toNat * 1))) := ⟨_, rfl⟩; obtain ⟨c63, hc63⟩ : ∃ c1, c1 = co21 - (t336 : Int).toNat := ⟨_, rfl⟩; have hy63 : y346.length = x10_1.length - (t336 : Int).toNat := (by rw [Ny346.out, List.length_drop] <;> omega); rw [show (x10_1).drop (t336 : Int).toNat = y346 from Ny346.out.symm] at hr63; replace hr63 : Kd.C (Kd.int .i64) _ A63 y346.length y346 := (by rw [hA63]; exact hr63); rw [← hy63, ← hA63, ← hc63] at hcut63; have HR349 := Aside0.mk hr63; have HC349 := Aside0.mk (show y346.length ≤ c63 from by rw [hy63, hc63]; exact Nat.sub_le_sub_right hroom63 _); clear hr63 hC63 hroom63 hi063 hsz63 hc63; have KY63 := Aside0.mk hy63; have KA63 := Aside0.mk hA63; clear hy63 hA63; have KL63 := Aside0.mk (show (t336 : Int).toNat ≤ x10_1.length from by omega); replace q63 := eq_true q63) | (go_at_call 12; (with_reducible refine (reclaim_Schedule.calls kj39 t342 (wrap64 (t316 + t336)) _ _ y346 t350 t351 t352 _ ?side1 ?side2 A52.out).mono ?_); (case side1 => repeat (first | exact (by repeat (first | (with_reducible exact HR349.out) | (with_reducible refine Kd.C_alloc ?_ _) | (with_reducible refine Kd.C_drewN ?_ _) | (with_reducible refine Kd.C_drew ?_) | exact HR349.out)) | (with_reducible refine Kd.C_alloc ?_ _) | (with_reducible refine Kd.C_drewN ?_ _) | (with_reducible refine Kd.C_drew ?_))); (case side2 => exact HC349.out); rintro e w64 ⟨v353, rfl, ho0, hb⟩; have n0_ := Aside0.mk (Kd.R_below (by (with_reducible repeat (first | apply Kd.R_alloc | apply Kd.R_drewN | apply Kd.R_drew)); exact HO_10.out) hb); have n1_ := Aside0.mk (Kd.R_elder' (by (with_reducible repeat (first | apply Kd.R_alloc | apply Kd.R_drewN | apply Kd.R_drew)); exact HO_14.out) (Kd.R_base ho0) hb); have n2_ := Aside0.mk (Kd.R_elder' (by (with_reducible repeat (first | apply Kd.R_alloc | apply Kd.R_drewN | apply Kd.R_drew)); exact HO345.out) (Kd.R_base ho0) hb); have n3_ := Aside0.mk (Kd.R_lower (Kd.R_new' (Kd.R_new' ho0 (Kd.R_lt (by (with_reducible repeat (first | apply Kd.R_alloc | apply Kd.R_drewN | apply Kd.R_drew)); exact HO_14.out))) (Kd.R_lt (by (with_reducible repeat (first | apply Kd.R_alloc | apply Kd.R_drewN | apply Kd.R_drew)); exact HO345.out))) (below_size (by repeat (first | (with_reducible first | exact HB.out | apply below_alloc | apply pw_below_drewN | apply below_drew1) | exact HB.out)))); have n4_ := Aside0.mk (Kd.C_below (by repeat (first | (with_reducible exact HR340.out) | (with_reducible refine Kd.C_alloc ?_ _) | (with_reducible refine Kd.C_drewN ?_ _) | (with_reducible refine Kd.C_drew ?_) | exact HR340.out)) hb); have n5_ := Aside0.mk (Kd.C_below (by repeat (first | (with_reducible exact HR349.out) | (with_reducible refine Kd.C_alloc ?_ _) | (with_reducible refine Kd.C_drewN ?_ _) | (with_reducible refine Kd.C_drew ?_) | exact HR349.out)) hb); have n6_ := Aside0.mk (below_step (by repeat (first | (with_reducible first | exact HB.out | apply below_alloc | apply pw_below_drewN | apply below_drew1) | exact HB.out)) hb); clear HO_10; clear HO_14; clear HO345; clear HR340; clear HR349; clear HB; have HO_10 := n0_; have HO_14 := n1_; have HO345 := n2_; have HO354 := n3_; have HR340 := n4_; have HR349 := n5_; have HB := n6_; clear n0_ n1_ n2_ n3_ n4_ n5_ n6_; (try clear hb); (try clear hb2); (try clear hk); (try clear hi); (try clear ho0)) | ((with_reducible refine gate_dst (N := 190) rfl ?_); (try (refine gate_guard (by rfl) ?_; dsimp only)); refine Go.Proofs.Ytpgghakjbghagaa.HWords.R_make0 k41 _ 41 rfl (N := 190) rfl 30 _ _ rfl 40 rfl rfl Try.underlying30 (.agg #[(.int .i64 0), (.int .i64 0)]) 16 info41 (by omega) (ok := fun _ => True) (fun _ _ => trivial) (by omega) (by omega) (Below.refl _ _) (Nat.le_refl _) ?_; intro v356 w65 ho66 hb hg_ hnew_; clear hg_ hnew_; (first | rw [← Ny355.out] at ho66 | (simp only [Int.reduceToNat] at ho66; rw [← Ny355.out] at ho66)); have n0_ := Aside0.mk (Kd.R_below (by (with_reducible repeat (first | apply Kd.R_alloc | apply Kd.R_drewN | apply Kd.R_drew)); exact HO_10.out) hb); have n1_ := Aside0.mk (Kd.R_elder' (by (with_reducible repeat (first | apply Kd.R_alloc | apply Kd.R_drewN | apply Kd.R_drew)); exact HO_14.out) (Kd.R_base ho66) hb); have n2_ := Aside0.mk (Kd.R_elder' (by (with_reducible repeat (first | apply Kd.R_alloc | apply Kd.R_drewN | apply Kd.R_drew)); exact HO345.out) (Kd.R_base ho66) hb); have n3_ := Aside0.mk (Kd.R_elder' (by (with_reducible repeat (first | apply Kd.R_alloc | apply Kd.R_drewN | apply Kd.R_drew)); exact HO354.out) (Kd.R_base ho66) hb); have n4_ := Aside0.mk (Kd.R_lower (Kd.R_new' (Kd.R_new' (Kd.R_new' ho66 (Kd.R_lt (by (with_reducible repeat (first | apply Kd.R_alloc | apply Kd.R_drewN | apply Kd.R_drew)); exact HO_14.out))) (Kd.R_lt (by (with_reducible repeat (first | apply Kd.R_alloc | apply Kd.R_drewN | apply Kd.R_drew)); exact HO345.out))) (Kd.R_lt (by (with_reducible repeat (first | apply Kd.R_alloc | apply Kd.R_drewN | apply Kd.R_drew)); exact HO354.out))) (below_size (by repeat (first | (with_reducible first | exact HB.out | apply below_alloc | apply pw_below_drewN | apply below_drew1) | exact HB.out)))); have n5_ := Aside0.mk (Kd.C_below (by repeat (first | (with_reducible exact HR340.out) | (with_reducible refine Kd.C_alloc ?_ _) | (with_reducible refine Kd.C_drewN ?_ _) | (with_reducible refine Kd.C_drew ?_) | exact HR340.out)) hb); have n6_ := Aside0.mk (Kd.C_below (by repeat (first | (with_reducible exact HR349.out) | (with_reducible refine Kd.C_alloc ?_ _) | (with_reducible refine Kd.C_drewN ?_ _) | (with_reducible refine Kd.C_drew ?_) | exact HR349.out)) hb); have n7_ := Aside0.mk (below_step (by repeat (first | (with_reducible first | exact HB.out | apply below_alloc | apply pw_below_drewN | apply below_drew1) | exact HB.out)) hb); clear HO_10; clear HO_14; clear HO345; clear HO354; clear HR340; clear HR349; clear HB; have HO_10 := n0_; have HO_14 := n1_; have HO345 := n2_; have HO354 := n3_; have HO357 := n4_; have HR340 := n5_; have HR349 := n6_; have HB := n7_; clear n0_ n1_ n2_ n3_ n4_ n5_ n6_ n7_; clear hb ho66; obtain ⟨Ao68, co68, eo68⟩ := Kd.R_slice HO345.out; subst eo68) | ((with_reducible refine gate_builtin (b := .append) (xs := #[.tmp 190, .tmp 191]) rfl ?_); (try (refine gate_guard (by rfl) ?_; dsimp only)); at_builtin; refine Kd.R_append_rows k41 (w0 := w) w.heap.size rfl (.tmp 190) (.tmp 191) 30 41 (.agg #[(.int .i64 0), (.int .i64 0)]) 16 rfl Try.underlying30 info41 rfl (by decide) (by omega) v356 y355 t341 _ _ _ (fun k_ => some k_ ≠ (.slice Ao41 t317.length co41 : Value).ownBlock ∧ some k_ ≠ (.slice Ao68 t341.length co68 : Value).ownBlock ∧ some k_ ≠ (v353 : Value).ownBlock) (fun _ => False) rfl rfl ?aO ?aR (fun _ _ h => h) (fun _ h => h.elim) ?aF ?aB ?aS ?aL ?_; (case aR => repeat (first | exact (Kd.R_reads' HO345.out).2.2 | (with_reducible refine Kd.C_alloc ?_ _) | (with_reducible refine Kd.C_drewN ?_ _) | (with_reducible refine Kd.C_drew ?_))); (case aB => exact (by repeat (first | (with_reducible first | exact HB.out | apply below_alloc | apply pw_below_drewN | apply below_drew1) | exact HB.out))); (case aF => exact (fun k_ hk => ⟨Kd.fresh' (Kd.R_lt (by (with_reducible repeat (first | apply Kd.R_alloc | apply Kd.R_drewN | apply Kd.R_drew)); exact HO_14.out)) k_ hk, Kd.fresh' (Kd.R_lt (by (with_reducible repeat (first | apply Kd.R_alloc | apply Kd.R_drewN | apply Kd.R_drew)); exact HO345.out)) k_ hk, Kd.fresh' (Kd.R_lt (by (with_reducible repeat (first | apply Kd.R_alloc | apply Kd.R_drewN | apply Kd.R_drew)); exact HO354.out)) k_ hk⟩)); (case aO => exact (by (with_reducible repeat (first | apply Kd.R_alloc | apply Kd.R_drewN | apply Kd.R_drew)); exact Kd.R_mono HO357.out (fun _ hk => ⟨hk.1.1.2, ⟨hk.1.2, hk.2⟩⟩))); (case aS => exact (below_size (by repeat (first | (with_reducible first | exact HB.out | apply below_alloc | apply pw_below_drewN | apply below_drew1) | exact HB.out)))); (case aL => have := LMc54.out; omega); intro v359 w67 ho hb hg hat; rw [← Ny358.out] at ho; have n0_ := Aside0.mk (Kd.R_over' (by (with_reducible repeat (first | apply Kd.R_alloc | apply Kd.R_drewN | apply Kd.R_drew)); exact HO_10.out) (Kd.R_typed (by (with_reducible repeat (first | apply Kd.R_alloc | apply Kd.R_drewN | apply Kd.R_drew)); exact HO357.out)) (by decide) hg); have n1_ := Aside0.mk (Kd.R_after (ok := (fun k_ => some k_ ≠ (.slice Ao68 t341.length co68 : Value).ownBlock ∧ some k_ ≠ (v353 : Value).ownBlock)) (by (with_reducible repeat (first | apply Kd.R_alloc | apply Kd.R_drewN | apply Kd.R_drew)); exact Kd.R_mono HO_14.out (fun _ hk => ⟨⟨hk.1.1.2, hk.1.2⟩, hk.2⟩)) hg hat); have n2_ := Aside0.mk (Kd.R_after (ok := (fun k_ => some k_ ≠ (.slice Ao41 t317.length co41 : Value).ownBlock ∧ some k_ ≠ (v353 : Value).ownBlock)) (by (with_reducible repeat (first | apply Kd.R_alloc | apply Kd.R_drewN | apply Kd.R_drew)); exact Kd.R_mono HO345.out (fun _ hk => ⟨⟨hk.1.1.2, hk.1.2⟩, hk.2⟩)) hg hat); have n3_ := Aside0.mk (Kd.R_after (ok := (fun k_ => some k_ ≠ (.slice Ao41 t317.length co41 : Value).ownBlock ∧ some k_ ≠ (.slice Ao68 t341.length co68 : Value).ownBlock)) (by (with_reducible repeat (first | apply Kd.R_alloc | apply Kd.R_drewN | apply Kd.R_drew)); exact Kd.R_mono HO354.out (fun _ hk => ⟨⟨hk.1.1.2, hk.1.2⟩, hk.2⟩)) hg hat); have n4_ := Aside0.mk (hb); have n5_ := Aside0.mk ((show Kd.C (Kd.int .i64) w67 Ao21 y337.length y337 from by rw [Ny337.out]; exact Kd.C_take (m := (t336 : Int).toNat) ((Kd.R_reads' (Kd.R_over' (by (with_reducible repeat (first | apply Kd.R_alloc | apply Kd.R_drewN | apply Kd.R_drew)); exact HO_10.out) (Kd.R_typed (by (with_reducible repeat (first | apply Kd.R_alloc | apply Kd.R_drewN | apply Kd.R_drew)); exact HO357.out)) (by decide) hg)).2.2) KL61.out)); have n6_ := Aside0.mk ((show Kd.C (Kd.int .i64) w67 A63 y346.length y346 from by rw [Ny346.out, KA63.out]; exact Kd.C_drop (m := (t336 : Int).toNat) (c := co21) ((Kd.R_reads' (Kd.R_over' (by (with_reducible repeat (first | apply Kd.R_alloc | apply Kd.R_drewN | apply Kd.R_drew)); exact HO_10.out) (Kd.R_typed (by (with_reducible repeat (first | apply Kd.R_alloc | apply Kd.R_drewN | apply Kd.R_drew)); exact HO357.out)) (by decide) hg)).2.2) KL63.out ((Kd.R_reads' (Kd.R_over' (by (with_reducible repeat (first | apply Kd.R_alloc | apply Kd.R_drewN | apply Kd.R_drew)); exact HO_10.out) (Kd.R_typed (by (with_reducible repeat (first | apply Kd.R_alloc | apply Kd.R_drewN | apply Kd.R_drew)); exact HO357.out)) (by decide) hg)).2.1))); have n7_ := Aside0.mk (ho); clear HO_10; clear HO_14; clear HO345; clear HO354; clear HB; clear HR340; clear HR349; clear HO357; have HO_10 := n0_; have HO_14 := n1_; have HO345 := n2_; have HO354 := n3_; have HB := n4_; have HR340 := n5_; have HR349 := n6_; have HO360 := n7_; clear n0_ n1_ n2_ n3_ n4_ n5_ n6_ n7_; clear ho hb hg hat; obtain ⟨Ao70, co70, eo70⟩ := Kd.R_slice HO354.out; subst eo70) | ((with_reducible refine gate_builtin (b := .append) (xs := #[.tmp 192, .tmp 193]) rfl ?_); (try (refine gate_guard (by rfl) ?_; dsimp only)); at_builtin; refine Kd.R_append_rows k41 (w0 := w) w.heap.size rfl (.tmp 192) (.tmp 193) 30 41 (.agg #[(.int .i64 0), (.int .i64 0)]) 16 rfl Try.underlying30 info41 rfl (by decide) (by omega) v359 y358 t350 _ _ _ (fun k_ => some k_ ≠ (.slice Ao41 t317.length co41 : Value).ownBlock ∧ some k_ ≠ (.slice Ao68 t341.length co68 : Value).ownBlock ∧ some k_ ≠ (.slice Ao70 t350.length co70 : Value).ownBlock) (fun _ => False) rfl rfl ?aO ?aR (fun _ _ h => h) (fun _ h => h.elim) ?aF ?aB ?aS ?aL ?_; (case aR => repeat (first | exact (Kd.R_reads' HO354.out).2.2 | (with_reducible refine Kd.C_alloc ?_ _) | (with_reducible refine Kd.C_drewN ?_ _) | (with_reducible refine Kd.C_drew ?_))); (case aB => exact (by repeat (first | (with_reducible first | exact HB.out | apply below_alloc | apply pw_below_drewN | apply below_drew1) | exact HB.out))); (case aF => exact (fun k_ hk => ⟨Kd.fresh' (Kd.R_lt (by (with_reducible repeat (first | apply Kd.R_alloc | apply Kd.R_drewN | apply Kd.R_drew)); exact HO_14.out)) k_ hk, Kd.fresh' (Kd.R_lt (by (with_reducible repeat (first | apply Kd.R_alloc | apply Kd.R_drewN | apply Kd.R_drew)); exact HO345.out)) k_ hk, Kd.fresh' (Kd.R_lt (by (with_reducible repeat (first | apply Kd.R_alloc | apply Kd.R_drewN | apply Kd.R_drew)); exact HO354.out)) k_ hk⟩)); (case aO => exact (by (with_reducible repeat (first | apply Kd.R_alloc | apply Kd.R_drewN | apply Kd.R_drew)); exact HO360.out)); (case aS => exact (below_size (by repeat (first | (with_reducible first | exact HB.out | apply below_alloc | apply pw_below_drewN | apply below_drew1) | exact HB.out)))); (case aL => have := LMc55.out; omega); intro v362 w69 ho hb hg hat; rw [← Ny361.out] at ho; have n0_ := Aside0.mk (Kd.R_over' (by (with_reducible repeat (first | apply Kd.R_alloc | apply Kd.R_drewN | apply Kd.R_drew)); exact HO_10.out) (Kd.R_typed (by (with_reducible repeat (first | apply Kd.R_alloc | apply Kd.R_drewN | apply Kd.R_drew)); exact HO360.out)) (by decide) hg); have n1_ := Aside0.mk (Kd.R_after (ok := (fun k_ => some k_ ≠ (.slice Ao68 t341.length co68 : Value).ownBlock ∧ some k_ ≠ (.slice Ao70 t350.length co70 : Value).ownBlock)) (by (with_reducible repeat (first | apply Kd.R_alloc | apply Kd.R_drewN | apply Kd.R_drew)); exact HO_14.out) hg hat); have n2_ := Aside0.mk (Kd.R_after (ok := (fun k_ => some k_ ≠ (.slice Ao41 t317.length co41 : Value).ownBlock ∧ some k_ ≠ (.slice Ao70 t350.length co70 : Value).ownBlock)) (by (with_reducible repeat (first | apply Kd.R_alloc | apply Kd.R_drewN | apply Kd.R_drew)); exact HO345.out) hg hat); have n3_ := Aside0.mk (Kd.R_after (ok := (fun k_ => some k_ ≠ (.slice Ao41 t317.length co41 : Value).ownBlock ∧ some k_ ≠ (.slice Ao68 t341.length co68 : Value).ownBlock)) (by (with_reducible repeat (first | apply Kd.R_alloc | apply Kd.R_drewN | apply Kd.R_drew)); exact HO354.out) hg hat); have n4_ := Aside0.mk (hb); have n5_ := Aside0.mk ((show Kd.C (Kd.int .i64) w69 Ao21 y337.length y337 from by rw [Ny337.out]; exact Kd.C_take (m := (t336 : Int).toNat) ((Kd.R_reads' (Kd.R_over' (by (with_reducible repeat (first | apply Kd.R_alloc | apply Kd.R_drewN | apply Kd.R_drew)); exact HO_10.out) (Kd.R_typed (by (with_reducible repeat (first | apply Kd.R_alloc | apply Kd.R_drewN | apply Kd.R_drew)); exact HO360.out)) (by decide) hg)).2.2) KL61.out)); have n6_ := Aside0.mk ((show Kd.C (Kd.int .i64) w69 A63 y346.length y346 from by rw [Ny346.out, KA63.out]; exact Kd.C_drop (m := (t336 : Int).toNat) (c := co21) ((Kd.R_reads' (Kd.R_over' (by (with_reducible repeat (first | apply Kd.R_alloc | apply Kd.R_drewN | apply Kd.R_drew)); exact HO_10.out) (Kd.R_typed (by (with_reducible repeat (first | apply Kd.R_alloc | apply Kd.R_drewN | apply Kd.R_drew)); exact HO360.out)) (by decide) hg)).2.2) KL63.out ((Kd.R_reads' (Kd.R_over' (by (with_reducible repeat (first | apply Kd.R_alloc | apply Kd.R_drewN | apply Kd.R_drew)); exact HO_10.out) (Kd.R_typed (by (with_reducible repeat (first | apply Kd.R_alloc | apply Kd.R_drewN | apply Kd.R_drew)); exact HO360.out)) (by decide) hg)).2.1))); have n7_ := Aside0.mk (ho); clear HO_10; clear HO_14; clear HO345; clear HO354; clear HB; clear HR340; clear HR349; clear HO360; have HO_10 := n0_; have HO_14 := n1_; have HO345 := n2_; have HO354 := n3_; have HB := n4_; have HR340 := n5_; have HR349 := n6_; have HO363 := n7_; clear n0_ n1_ n2_ n3_ n4_ n5_ n6_ n7_; clear ho hb hg hat; obtain ⟨Ao71, co71, eo71⟩ := Kd.R_slice HO363.out; subst eo71) | (go_at_call 16; (with_reducible refine (wageofficeref41_SamePlan.calls kj39 _ _ y361 _ _ t317 t364 _ ?side1 ?side2 ?side3 ?side4 A60.out).mono ?_); (case side1 => repeat (first | exact (Kd.R_reads' HO363.out).2.2 | (with_reducible refine Kd.C_alloc ?_ _) | (with_reducible refine Kd.C_drewN ?_ _) | (with_reducible refine Kd.C_drew ?_))); (case side2 => exact (Kd.R_reads' HO363.out).2.1); (case side3 => repeat (first | exact (Kd.R_reads' HO_14.out).2.2 | (with_reducible refine Kd.C_alloc ?_ _) | (with_reducible refine Kd.C_drewN ?_ _) | (with_reducible refine Kd.C_drew ?_))); (case side4 => exact (Kd.R_reads' HO_14.out).2.1); rintro e w' ⟨rfl, ⟨nd, rfl⟩⟩; (try first | exact ⟨rfl, _, World.drewN_drewN _ _ _⟩ | exact ⟨rfl, _, Eq.trans (World.drewN_drewN _ _ _) (congrArg (World.drewN _) (Nat.add_assoc _ _ _))⟩))); try go_wp2_with (first | (go_at_call 14; (with_reducible refine (wageofficelaw41_pick.calls a3 (wrap64 ((x10_1.length : Int) + 1)) t336 _ A46.out).mono ?_); rintro e w' ⟨rfl, ⟨nd, rfl⟩⟩; (try first | exact ⟨rfl, _, World.drewN_drewN _ _ _⟩ | exact ⟨rfl, _, Eq.trans (World.drewN_drewN _ _ _) (congrArg (World.drewN _) (Nat.add_assoc _ _ _))⟩); have q61 : (t336 : Int) ≤ ((x10_1.length : Int) : Int) := of_decide_eq_true (by first | (with_reducible assumption) | assumption); obtain ⟨i061, hi061, _, hsz61, _⟩ := info_parts info3; have hroom61 : x10_1.length ≤ co21 := (Kd.R_reads' HO_10.out).2.1; have hC61 : Kd.C (Kd.int .i64) _ Ao21 x10_1.length x10_1 := (Kd.R_reads' HO_10.out).2.2; have hcut61 := cut_to (P := Try.prog) 22 3 .i64 Try.underlying22 hi061 Ao21 x10_1.length co21 t336 (of_decide_eq_true (by first | (with_reducible assumption) | assumption)) q61 hroom61; have hr61 := Kd.C_take (m := (t336 : Int).toNat) hC61 (by omega); have hy61 : y337.length = (t336 : Int).toNat := (by rw [Ny337.out, List.length_take]; omega); rw [← Ny337.out] at hr61; rw [← hy61] at hcut61; have HR340 := Aside0.mk hr61; have HC340 := Aside0.mk (show y337.length ≤ co21 from by omega); clear hr61 hC61 hroom61 hi061 hsz61; have KY61 := Aside0.mk hy61; clear hy61; have KL61 := Aside0.mk (show (t336 : Int).toNat ≤ x10_1.length from by omega); replace q61 := eq_true q61) | (go_at_call 12; (with_reducible refine (reclaim_Schedule.calls kj39 t315 t316 _ _ y337 t341 t342 t343 _ ?side1 ?side2 A49.out).mono ?_); (case side1 => repeat (first | exact (by repeat (first | (with_reducible exact HR340.out) | (with_reducible refine Kd.C_alloc ?_ _) | (with_reducible refine Kd.C_drewN ?_ _) | (with_reducible refine Kd.C_drew ?_) | exact HR340.out)) | (with_reducible refine Kd.C_alloc ?_ _) | (with_reducible refine Kd.C_drewN ?_ _) | (with_reducible refine Kd.C_drew ?_))); (case side2 => exact HC340.out); rintro e w62 ⟨v344, rfl, ho0, hb⟩; have n0_ := Aside0.mk (Kd.R_below (by (with_reducible repeat (first | apply Kd.R_alloc | apply Kd.R_drewN | apply Kd.R_drew)); exact HO_10.out) hb); have n1_ := Aside0.mk (Kd.R_elder' (by (with_reducible repeat (first | apply Kd.R_alloc | apply Kd.R_drewN | apply Kd.R_drew)); exact HO_14.out) (Kd.R_base ho0) hb); have n2_ := Aside0.mk (Kd.R_lower (Kd.R_new' ho0 (Kd.R_lt (by (with_reducible repeat (first | apply Kd.R_alloc | apply Kd.R_drewN | apply Kd.R_drew)); exact HO_14.out))) (below_size (by repeat (first | (with_reducible first | exact HB.out | apply below_alloc | apply pw_below_drewN | apply below_drew1) | exact HB.out)))); have n3_ := Aside0.mk (Kd.C_below (by repeat (first | (with_reducible exact HR340.out) | (with_reducible refine Kd.C_alloc ?_ _) | (with_reducible refine Kd.C_drewN ?_ _) | (with_reducible refine Kd.C_drew ?_) | exact HR340.out)) hb); have n4_ := Aside0.mk (below_step (by repeat (first | (with_reducible first | exact HB.out | apply below_alloc | apply pw_below_drewN | apply below_drew1) | exact HB.out)) hb); clear HO_10; clear HO_14; clear HR340; clear HB; have HO_10 := n0_; have HO_14 := n1_; have HO345 := n2_; have HR340 := n3_; have HB := n4_; clear n0_ n1_ n2_ n3_ n4_; (try clear hb); (try clear hb2); (try clear hk); (try clear hi); (try clear ho0); have q63 : (t336 : Int) ≤ ((x10_1.length : Int) : Int) := of_decide_eq_true (by first | (with_reducible assumption) | assumption); obtain ⟨i063, hi063, _, hsz63, _⟩ := info_parts info3; have hroom63 : x10_1.length ≤ co21 := (Kd.R_reads' HO_10.out).2.1; have hC63 : Kd.C (Kd.int .i64) _ Ao21 x10_1.length x10_1 := (Kd.R_reads' HO_10.out).2.2; have q063 : (0 : Int) ≤ (t336 : Int) := of_decide_eq_true (by first | (with_reducible assumption) | assumption); have hcut63 := cut_from (P := Try.prog) 22 3 .i64 Try.underlying22 hi063 1 hsz63 Ao21 x10_1.length co21 t336 q063 q63; have hr63 := Kd.C_drop (m := (t336 : Int).toNat) (c := co21) hC63 (by omega) hroom63; obtain ⟨A63, hA63⟩ : ∃ A1, A1 = (if co21 = (t336 : Int).toNat then Ao21 else (Ao21 : Option Addr).map (·.add ((t336 : Int).toNat * 1))) := ⟨_, rfl⟩; obtain ⟨c63, hc63⟩ : ∃ c1, c1 = co21 - (t336 : Int).toNat := ⟨_, rfl⟩; have hy63 : y346.length = x10_1.length - (t336 : Int).toNat := (by rw [Ny346.out, List.length_drop] <;> omega); rw [show (x10_1).drop (t336 : Int).toNat = y346 from Ny346.out.symm] at hr63; replace hr63 : Kd.C (Kd.int .i64) _ A63 y346.length y346 := (by rw [hA63]; exact hr63); rw [← hy63, ← hA63, ← hc63] at hcut63; have HR349 := Aside0.mk hr63; have HC349 := Aside0.mk (show y346.length ≤ c63 from by rw [hy63, hc63]; exact Nat.sub_le_sub_right hroom63 _); clear hr63 hC63 hroom63 hi063 hsz63 hc63; have KY63 := Aside0.mk hy63; have KA63 := Aside0.mk hA63; clear hy63 hA63; have KL63 := Aside0.mk (show (t336 : Int).toNat ≤ x10_1.length from by omega); replace q63 := eq_true q63) | (go_at_call 12; (with_reducible refine (reclaim_Schedule.calls kj39 t342 (wrap64 (t316 + t336)) _ _ y346 t350 t351 t352 _ ?side1 ?side2 A52.out).mono ?_); (case side1 => repeat (first | exact (by repeat (first | (with_reducible exact HR349.out) | (with_reducible refine Kd.C_alloc ?_ _) | (with_reducible refine Kd.C_drewN ?_ _) | (with_reducible refine Kd.C_drew ?_) | exact HR349.out)) | (with_reducible refine Kd.C_alloc ?_ _) | (with_reducible refine Kd.C_drewN ?_ _) | (with_reducible refine Kd.C_drew ?_))); (case side2 => exact HC349.out); rintro e w64 ⟨v353, rfl, ho0, hb⟩; have n0_ := Aside0.mk (Kd.R_below (by (with_reducible repeat (first | apply Kd.R_alloc | apply Kd.R_drewN | apply Kd.R_drew)); exact HO_10.out) hb); have n1_ := Aside0.mk (Kd.R_elder' (by (with_reducible repeat (first | apply Kd.R_alloc | apply Kd.R_drewN | apply Kd.R_drew)); exact HO_14.out) (Kd.R_base ho0) hb); have n2_ := Aside0.mk (Kd.R_elder' (by (with_reducible repeat (first | apply Kd.R_alloc | apply Kd.R_drewN | apply Kd.R_drew)); exact HO345.out) (Kd.R_base ho0) hb); have n3_ := Aside0.mk (Kd.R_lower (Kd.R_new' (Kd.R_new' ho0 (Kd.R_lt (by (with_reducible repeat (first | apply Kd.R_alloc | apply Kd.R_drewN | apply Kd.R_drew)); exact HO_14.out))) (Kd.R_lt (by (with_reducible repeat (first | apply Kd.R_alloc | apply Kd.R_drewN | apply Kd.R_drew)); exact HO345.out))) (below_size (by repeat (first | (with_reducible first | exact HB.out | apply below_alloc | apply pw_below_drewN | apply below_drew1) | exact HB.out)))); have n4_ := Aside0.mk (Kd.C_below (by repeat (first | (with_reducible exact HR340.out) | (with_reducible refine Kd.C_alloc ?_ _) | (with_reducible refine Kd.C_drewN ?_ _) | (with_reducible refine Kd.C_drew ?_) | exact HR340.out)) hb); have n5_ := Aside0.mk (Kd.C_below (by repeat (first | (with_reducible exact HR349.out) | (with_reducible refine Kd.C_alloc ?_ _) | (with_reducible refine Kd.C_drewN ?_ _) | (with_reducible refine Kd.C_drew ?_) | exact HR349.out)) hb); have n6_ := Aside0.mk (below_step (by repeat (first | (with_reducible first | exact HB.out | apply below_alloc | apply pw_below_drewN | apply below_drew1) | exact HB.out)) hb); clear HO_10; clear HO_14; clear HO345; clear HR340; clear HR349; clear HB; have HO_10 := n0_; have HO_14 := n1_; have HO345 := n2_; have HO354 := n3_; have HR340 := n4_; have HR349 := n5_; have HB := n6_; clear n0_ n1_ n2_ n3_ n4_ n5_ n6_; (try clear hb); (try clear hb2); (try clear hk); (try clear hi); (try clear ho0)) | ((with_reducible refine gate_dst (N := 190) rfl ?_); (try (refine gate_guard (by rfl) ?_; dsimp only)); refine Go.Proofs.Ytpgghakjbghagaa.HWords.R_make0 k41 _ 41 rfl (N := 190) rfl 30 _ _ rfl 40 rfl rfl Try.underlying30 (.agg #[(.int .i64 0), (.int .i64 0)]) 16 info41 (by omega) (ok := fun _ => True) (fun _ _ => trivial) (by omega) (by omega) (Below.refl _ _) (Nat.le_refl _) ?_; intro v356 w65 ho66 hb hg_ hnew_; clear hg_ hnew_; (first | rw [← Ny355.out] at ho66 | (simp only [Int.reduceToNat] at ho66; rw [← Ny355.out] at ho66)); have n0_ := Aside0.mk (Kd.R_below (by (with_reducible repeat (first | apply Kd.R_alloc | apply Kd.R_drewN | apply Kd.R_drew)); exact HO_10.out) hb); have n1_ := Aside0.mk (Kd.R_elder' (by (with_reducible repeat (first | apply Kd.R_alloc | apply Kd.R_drewN | apply Kd.R_drew)); exact HO_14.out) (Kd.R_base ho66) hb); have n2_ := Aside0.mk (Kd.R_elder' (by (with_reducible repeat (first | apply Kd.R_alloc | apply Kd.R_drewN | apply Kd.R_drew)); exact HO345.out) (Kd.R_base ho66) hb); have n3_ := Aside0.mk (Kd.R_elder' (by (with_reducible repeat (first | apply Kd.R_alloc | apply Kd.R_drewN | apply Kd.R_drew)); exact HO354.out) (Kd.R_base ho66) hb); have n4_ := Aside0.mk (Kd.R_lower (Kd.R_new' (Kd.R_new' (Kd.R_new' ho66 (Kd.R_lt (by (with_reducible repeat (first | apply Kd.R_alloc | apply Kd.R_drewN | apply Kd.R_drew)); exact HO_14.out))) (Kd.R_lt (by (with_reducible repeat (first | apply Kd.R_alloc | apply Kd.R_drewN | apply Kd.R_drew)); exact HO345.out))) (Kd.R_lt (by (with_reducible repeat (first | apply Kd.R_alloc | apply Kd.R_drewN | apply Kd.R_drew)); exact HO354.out))) (below_size (by repeat (first | (with_reducible first | exact HB.out | apply below_alloc | apply pw_below_drewN | apply below_drew1) | exact HB.out)))); have n5_ := Aside0.mk (Kd.C_below (by repeat (first | (with_reducible exact HR340.out) | (with_reducible refine Kd.C_alloc ?_ _) | (with_reducible refine Kd.C_drewN ?_ _) | (with_reducible refine Kd.C_drew ?_) | exact HR340.out)) hb); have n6_ := Aside0.mk (Kd.C_below (by repeat (first | (with_reducible exact HR349.out) | (with_reducible refine Kd.C_alloc ?_ _) | (with_reducible refine Kd.C_drewN ?_ _) | (with_reducible refine Kd.C_drew ?_) | exact HR349.out)) hb); have n7_ := Aside0.mk (below_step (by repeat (first | (with_reducible first | exact HB.out | apply below_alloc | apply pw_below_drewN | apply below_drew1) | exact HB.out)) hb); clear HO_10; clear HO_14; clear HO345; clear HO354; clear HR340; clear HR349; clear HB; have HO_10 := n0_; have HO_14 := n1_; have HO345 := n2_; have HO354 := n3_; have HO357 := n4_; have HR340 := n5_; have HR349 := n6_; have HB := n7_; clear n0_ n1_ n2_ n3_ n4_ n5_ n6_ n7_; clear hb ho66; obtain ⟨Ao68, co68, eo68⟩ := Kd.R_slice HO345.out; subst eo68) | ((with_reducible refine gate_builtin (b := .append) (xs := #[.tmp 190, .tmp 191]) rfl ?_); (try (refine gate_guard (by rfl) ?_; dsimp only)); at_builtin; refine Kd.R_append_rows k41 (w0 := w) w.heap.size rfl (.tmp 190) (.tmp 191) 30 41 (.agg #[(.int .i64 0), (.int .i64 0)]) 16 rfl Try.underlying30 info41 rfl (by decide) (by omega) v356 y355 t341 _ _ _ (fun k_ => some k_ ≠ (.slice Ao41 t317.length co41 : Value).ownBlock ∧ some k_ ≠ (.slice Ao68 t341.length co68 : Value).ownBlock ∧ some k_ ≠ (v353 : Value).ownBlock) (fun _ => False) rfl rfl ?aO ?aR (fun _ _ h => h) (fun _ h => h.elim) ?aF ?aB ?aS ?aL ?_; (case aR => repeat (first | exact (Kd.R_reads' HO345.out).2.2 | (with_reducible refine Kd.C_alloc ?_ _) | (with_reducible refine Kd.C_drewN ?_ _) | (with_reducible refine Kd.C_drew ?_))); (case aB => exact (by repeat (first | (with_reducible first | exact HB.out | apply below_alloc | apply pw_below_drewN | apply below_drew1) | exact HB.out))); (case aF => exact (fun k_ hk => ⟨Kd.fresh' (Kd.R_lt (by (with_reducible repeat (first | apply Kd.R_alloc | apply Kd.R_drewN | apply Kd.R_drew)); exact HO_14.out)) k_ hk, Kd.fresh' (Kd.R_lt (by (with_reducible repeat (first | apply Kd.R_alloc | apply Kd.R_drewN | apply Kd.R_drew)); exact HO345.out)) k_ hk, Kd.fresh' (Kd.R_lt (by (with_reducible repeat (first | apply Kd.R_alloc | apply Kd.R_drewN | apply Kd.R_drew)); exact HO354.out)) k_ hk⟩)); (case aO => exact (by (with_reducible repeat (first | apply Kd.R_alloc | apply Kd.R_drewN | apply Kd.R_drew)); exact Kd.R_mono HO357.out (fun _ hk => ⟨hk.1.1.2, ⟨hk.1.2, hk.2⟩⟩))); (case aS => exact (below_size (by repeat (first | (with_reducible first | exact HB.out | apply below_alloc | apply pw_below_drewN | apply below_drew1) | exact HB.out)))); (case aL => have := LMc54.out; omega); intro v359 w67 ho hb hg hat; rw [← Ny358.out] at ho; have n0_ := Aside0.mk (Kd.R_over' (by (with_reducible repeat (first | apply Kd.R_alloc | apply Kd.R_drewN | apply Kd.R_drew)); exact HO_10.out) (Kd.R_typed (by (with_reducible repeat (first | apply Kd.R_alloc | apply Kd.R_drewN | apply Kd.R_drew)); exact HO357.out)) (by decide) hg); have n1_ := Aside0.mk (Kd.R_after (ok := (fun k_ => some k_ ≠ (.slice Ao68 t341.length co68 : Value).ownBlock ∧ some k_ ≠ (v353 : Value).ownBlock)) (by (with_reducible repeat (first | apply Kd.R_alloc | apply Kd.R_drewN | apply Kd.R_drew)); exact Kd.R_mono HO_14.out (fun _ hk => ⟨⟨hk.1.1.2, hk.1.2⟩, hk.2⟩)) hg hat); have n2_ := Aside0.mk (Kd.R_after (ok := (fun k_ => some k_ ≠ (.slice Ao41 t317.length co41 : Value).ownBlock ∧ some k_ ≠ (v353 : Value).ownBlock)) (by (with_reducible repeat (first | apply Kd.R_alloc | apply Kd.R_drewN | apply Kd.R_drew)); exact Kd.R_mono HO345.out (fun _ hk => ⟨⟨hk.1.1.2, hk.1.2⟩, hk.2⟩)) hg hat); have n3_ := Aside0.mk (Kd.R_after (ok := (fun k_ => some k_ ≠ (.slice Ao41 t317.length co41 : Value).ownBlock ∧ some k_ ≠ (.slice Ao68 t341.length co68 : Value).ownBlock)) (by (with_reducible repeat (first | apply Kd.R_alloc | apply Kd.R_drewN | apply Kd.R_drew)); exact Kd.R_mono HO354.out (fun _ hk => ⟨⟨hk.1.1.2, hk.1.2⟩, hk.2⟩)) hg hat); have n4_ := Aside0.mk (hb); have n5_ := Aside0.mk ((show Kd.C (Kd.int .i64) w67 Ao21 y337.length y337 from by rw [Ny337.out]; exact Kd.C_take (m := (t336 : Int).toNat) ((Kd.R_reads' (Kd.R_over' (by (with_reducible repeat (first | apply Kd.R_alloc | apply Kd.R_drewN | apply Kd.R_drew)); exact HO_10.out) (Kd.R_typed (by (with_reducible repeat (first | apply Kd.R_alloc | apply Kd.R_drewN | apply Kd.R_drew)); exact HO357.out)) (by decide) hg)).2.2) KL61.out)); have n6_ := Aside0.mk ((show Kd.C (Kd.int .i64) w67 A63 y346.length y346 from by rw [Ny346.out, KA63.out]; exact Kd.C_drop (m := (t336 : Int).toNat) (c := co21) ((Kd.R_reads' (Kd.R_over' (by (with_reducible repeat (first | apply Kd.R_alloc | apply Kd.R_drewN | apply Kd.R_drew)); exact HO_10.out) (Kd.R_typed (by (with_reducible repeat (first | apply Kd.R_alloc | apply Kd.R_drewN | apply Kd.R_drew)); exact HO357.out)) (by decide) hg)).2.2) KL63.out ((Kd.R_reads' (Kd.R_over' (by (with_reducible repeat (first | apply Kd.R_alloc | apply Kd.R_drewN | apply Kd.R_drew)); exact HO_10.out) (Kd.R_typed (by (with_reducible repeat (first | apply Kd.R_alloc | apply Kd.R_drewN | apply Kd.R_drew)); exact HO357.out)) (by decide) hg)).2.1))); have n7_ := Aside0.mk (ho); clear HO_10; clear HO_14; clear HO345; clear HO354; clear HB; clear HR340; clear HR349; clear HO357; have HO_10 := n0_; have HO_14 := n1_; have HO345 := n2_; have HO354 := n3_; have HB := n4_; have HR340 := n5_; have HR349 := n6_; have HO360 := n7_; clear n0_ n1_ n2_ n3_ n4_ n5_ n6_ n7_; clear ho hb hg hat; obtain ⟨Ao70, co70, eo70⟩ := Kd.R_slice HO354.out; subst eo70) | ((with_reducible refine gate_builtin (b := .append) (xs := #[.tmp 192, .tmp 193]) rfl ?_); (try (refine gate_guard (by rfl) ?_; dsimp only)); at_builtin; refine Kd.R_append_rows k41 (w0 := w) w.heap.size rfl (.tmp 192) (.tmp 193) 30 41 (.agg #[(.int .i64 0), (.int .i64 0)]) 16 rfl Try.underlying30 info41 rfl (by decide) (by omega) v359 y358 t350 _ _ _ (fun k_ => some k_ ≠ (.slice Ao41 t317.length co41 : Value).ownBlock ∧ some k_ ≠ (.slice Ao68 t341.length co68 : Value).ownBlock ∧ some k_ ≠ (.slice Ao70 t350.length co70 : Value).ownBlock) (fun _ => False) rfl rfl ?aO ?aR (fun _ _ h => h) (fun _ h => h.elim) ?aF ?aB ?aS ?aL ?_; (case aR => repeat (first | exact (Kd.R_reads' HO354.out).2.2 | (with_reducible refine Kd.C_alloc ?_ _) | (with_reducible refine Kd.C_drewN ?_ _) | (with_reducible refine Kd.C_drew ?_))); (case aB => exact (by repeat (first | (with_reducible first | exact HB.out | apply below_alloc | apply pw_below_drewN | apply below_drew1) | exact HB.out))); (case aF => exact (fun k_ hk => ⟨Kd.fresh' (Kd.R_lt (by (with_reducible repeat (first | apply Kd.R_alloc | apply Kd.R_drewN | apply Kd.R_drew)); exact HO_14.out)) k_ hk, Kd.fresh' (Kd.R_lt (by (with_reducible repeat (first | apply Kd.R_alloc | apply Kd.R_drewN | apply Kd.R_drew)); exact HO345.out)) k_ hk, Kd.fresh' (Kd.R_lt (by (with_reducible repeat (first | apply Kd.R_alloc | apply Kd.R_drewN | apply Kd.R_drew)); exact HO354.out)) k_ hk⟩)); (case aO => exact (by (with_reducible repeat (first | apply Kd.R_alloc | apply Kd.R_drewN | apply Kd.R_drew)); exact HO360.out)); (case aS => exact (below_size (by repeat (first | (with_reducible first | exact HB.out | apply below_alloc | apply pw_below_drewN | apply below_drew1) | exact HB.out)))); (case aL => have := LMc55.out; omega); intro v362 w69 ho hb hg hat; rw [← Ny361.out] at ho; have n0_ := Aside0.mk (Kd.R_over' (by (with_reducible repeat (first | apply Kd.R_alloc | apply Kd.R_drewN | apply Kd.R_drew)); exact HO_10.out) (Kd.R_typed (by (with_reducible repeat (first | apply Kd.R_alloc | apply Kd.R_drewN | apply Kd.R_drew)); exact HO360.out)) (by decide) hg); have n1_ := Aside0.mk (Kd.R_after (ok := (fun k_ => some k_ ≠ (.slice Ao68 t341.length co68 : Value).ownBlock ∧ some k_ ≠ (.slice Ao70 t350.length co70 : Value).ownBlock)) (by (with_reducible repeat (first | apply Kd.R_alloc | apply Kd.R_drewN | apply Kd.R_drew)); exact HO_14.out) hg hat); have n2_ := Aside0.mk (Kd.R_after (ok := (fun k_ => some k_ ≠ (.slice Ao41 t317.length co41 : Value).ownBlock ∧ some k_ ≠ (.slice Ao70 t350.length co70 : Value).ownBlock)) (by (with_reducible repeat (first | apply Kd.R_alloc | apply Kd.R_drewN | apply Kd.R_drew)); exact HO345.out) hg hat); have n3_ := Aside0.mk (Kd.R_after (ok := (fun k_ => some k_ ≠ (.slice Ao41 t317.length co41 : Value).ownBlock ∧ some k_ ≠ (.slice Ao68 t341.length co68 : Value).ownBlock)) (by (with_reducible repeat (first | apply Kd.R_alloc | apply Kd.R_drewN | apply Kd.R_drew)); exact HO354.out) hg hat); have n4_ := Aside0.mk (hb); have n5_ := Aside0.mk ((show Kd.C (Kd.int .i64) w69 Ao21 y337.length y337 from by rw [Ny337.out]; exact Kd.C_take (m := (t336 : Int).toNat) ((Kd.R_reads' (Kd.R_over' (by (with_reducible repeat (first | apply Kd.R_alloc | apply Kd.R_drewN | apply Kd.R_drew)); exact HO_10.out) (Kd.R_typed (by (with_reducible repeat (first | apply Kd.R_alloc | apply Kd.R_drewN | apply Kd.R_drew)); exact HO360.out)) (by decide) hg)).2.2) KL61.out)); have n6_ := Aside0.mk ((show Kd.C (Kd.int .i64) w69 A63 y346.length y346 from by rw [Ny346.out, KA63.out]; exact Kd.C_drop (m := (t336 : Int).toNat) (c := co21) ((Kd.R_reads' (Kd.R_over' (by (with_reducible repeat (first | apply Kd.R_alloc | apply Kd.R_drewN | apply Kd.R_drew)); exact HO_10.out) (Kd.R_typed (by (with_reducible repeat (first | apply Kd.R_alloc | apply Kd.R_drewN | apply Kd.R_drew)); exact HO360.out)) (by decide) hg)).2.2) KL63.out ((Kd.R_reads' (Kd.R_over' (by (with_reducible repeat (first | apply Kd.R_alloc | apply Kd.R_drewN | apply Kd.R_drew)); exact HO_10.out) (Kd.R_typed (by (with_reducible repeat (first | apply Kd.R_alloc | apply Kd.R_drewN | apply Kd.R_drew)); exact HO360.out)) (by decide) hg)).2.1))); have n7_ := Aside0.mk (ho); clear HO_10; clear HO_14; clear HO345; clear HO354; clear HB; clear HR340; clear HR349; clear HO360; have HO_10 := n0_; have HO_14 := n1_; have HO345 := n2_; have HO354 := n3_; have HB := n4_; have HR340 := n5_; have HR349 := n6_; have HO363 := n7_; clear n0_ n1_ n2_ n3_ n4_ n5_ n6_ n7_; clear ho hb hg hat; obtain ⟨Ao71, co71, eo71⟩ := Kd.R_slice HO363.out; subst eo71) | (go_at_call 16; (with_reducible refine (wageofficeref41_SamePlan.calls kj39 _ _ y361 _ _ t317 t364 _ ?side1 ?side2 ?side3 ?side4 A60.out).mono ?_); (case side1 => repeat (first | exact (Kd.R_reads' HO363.out).2.2 | (with_reducible refine Kd.C_alloc ?_ _) | (with_reducible refine Kd.C_drewN ?_ _) | (with_reducible refine Kd.C_drew ?_))); (case side2 => exact (Kd.R_reads' HO363.out).2.1); (case side3 => repeat (first | exact (Kd.R_reads' HO_14.out).2.2 | (with_reducible refine Kd.C_alloc ?_ _) | (with_reducible refine Kd.C_drewN ?_ _) | (with_reducible refine Kd.C_drew ?_))); (case side4 => exact (Kd.R_reads' HO_14.out).2.1); rintro e w' ⟨rfl, ⟨nd, rfl⟩⟩; (try first | exact ⟨rfl, _, World.drewN_drewN _ _ _⟩ | exact ⟨rfl, _, Eq.trans (World.drewN_drewN _ _ _) (congrArg (World.drewN _) (Nat.add_assoc _ _ _))⟩))))
                                                go_ret
                                                exact ⟨by first | rfl | (simp [errW_none, errW_some] <;> rfl) | (simp [*, errW_none, errW_some] <;> rfl), by repeat (first | (with_reducible first | exact HB.out | apply below_alloc | apply pw_below_drewN | apply below_drew1) | exact HB.out)⟩
                                              · rw [if_neg c59] at H
                                                exact absurd H (by simp)
                                            · rw [if_neg c58] at H
                                              exact absurd H (by simp)
                                          · rw [if_neg c57] at H
                                            exact absurd H (by simp)
                                        · replace c56 := Bool.eq_false_iff.mpr c56
                                          subst c56
                                          have H1 : (none) = some r := by rw [if_neg (show ¬ (false = true) by decide)] at H; exact H
                                          clear H
                                          have H := H1
                                          clear H1
                                          exact absurd H (by simp)
                                      · rw [if_neg c55] at H
                                        exact absurd H (by simp)
                                    · rw [if_neg c54] at H
                                      exact absurd H (by simp)
                                  · rw [if_neg c53] at H
                                    exact absurd H (by simp)
                                · rw [if_neg c48] at H
                                  exact absurd H (by simp)
                              · rw [if_neg c47] at H
                                exact absurd H (by simp)
  · rw [if_neg c6] at H
    exact absurd H (by simp)

/-- THE ONE PURE STATEMENT of wageofficelaw41_ReclaimSchedules: yours. -/
def wageofficelaw41_ReclaimSchedules.Pure : Prop := ∀ (a0 : Int) (a1 : Int) (l2 : List Int) (a3 : Int), (Lit.int .i64 a0).wf = true → (Lit.int .i64 a1).wf = true → l2.length ≤ maxLen → l2.length * 8 ≤ 140737488351232 → (∀ x ∈ l2, (Lit.int .i64 x).wf = true) → (Lit.int .i64 a3).wf = true → ∃ k, wageofficelaw41_ReclaimSchedules.f k a0 a1 l2 a3 = some true
theorem wageofficelaw41_ReclaimSchedules.walk (P : wageofficelaw41_ReclaimSchedules.Pure) (a0 : Int) (a1 : Int) (a2 : Option Addr) (len2 cap2 : Nat) (z2 : List Int) (a3 : Int) (w : World) (w0 : (Lit.int .i64 a0).wf = true) (w1 : (Lit.int .i64 a1).wf = true) (w2 : (a2 = none ∧ len2 = 0 ∧ cap2 = 0 ∧ z2 = []) ∨ ∃ x, a2 = some x ∧ len2 ≤ cap2 ∧ cap2 ≤ maxLen ∧ z2.length = cap2 ∧ (∀ i, i < z2.length → w.cell? (x.add i) = some (.int .i64 (z2.getD i 0))) ∧ ∀ n ∈ z2, (Lit.int .i64 n).wf = true) (y2 : len2 * 8 ≤ 140737488351232) (w3 : (Lit.int .i64 a3).wf = true) :
    Calls Try.prog 7 #[.int .i64 a0, .int .i64 a1, .slice a2 len2 cap2, .int .i64 a3] w fun e w' => e = .returned (.bool true) ∧ Below w.heap.size w w' := by
  obtain ⟨l2, rfl, hr2, hm2, hw2, hc2⟩ := ReadsInt.ofRowC w2
  obtain ⟨k, h⟩ := P a0 a1 l2 a3 w0 w1 hm2 y2 hw2 w3
  refine (wageofficelaw41_ReclaimSchedules.calls k a0 a1 _ _ l2 a3 true w (Kd.C_of_reads (d := (0 : Int)) (h1 := fun _ => rfl) hr2) hc2 h).mono ?_
  rintro e w' ⟨rfl, hd⟩
  exact ⟨rfl, hd⟩

end Go.Proofs.Ytpgghakjbghagaa.Hp
