/- Written by a program of this session (hprint.py) and by hand: contracts of the functions that the laws reach, and the row of a law. -/
import Derived.Test.YtpgghakjbghagaaHpx0
import Derived.Test.YtpgghakjbghagaaHpx3
import Derived.Test.YtpgghakjbghagaaHpx4
import Derived.Test.YtpgghakjbghagaaHpx5
namespace Go.Proofs.Ytpgghakjbghagaa.Hp
open Go.RowKit Go.Proofs.Ytpgghakjbghagaa.HWords Go.Proofs.YtpgghakjbghagaaW.PrintWords Go.Proofs.YtpgghakjbghagaaW.PrintLast Go.Proofs.YtpgghakjbghagaaW.PrintMore
attribute [local go_sem] max2_int min2_int max_two min_two max_three min_three max_four min_four   -- for this text's walks alone
set_option linter.unusedVariables false
set_option linter.unusedSimpArgs false

/-! ### wageofficelaw41_ReclaimTooMuch: function 6 -/
mutual
def wageofficelaw41_ReclaimTooMuch.l0 : Nat → Bool → List Int → Int → Int → List Int → List Int → Int → Int → Option (Bool)
  | 0, _, _, _, _, _, _, _, _ => none
  | k + 1, x7, x8, x9, x10, x11, x12, x13, x14 => if x14 < (x8.length : Int) then (if 0 ≤ x14 then (if x11.length < 17592186044416 then (if x12.length < 17592186044416 then (wageofficelaw41_ReclaimTooMuch.l0 k x7 x8 x9 x10 (x11 ++ [wrap64 (x13 + (rd x8 x14))]) (x12 ++ [rd x8 x14]) (wrap64 (x13 + (rd x8 x14))) (wrap64 (x14 + 1))) else (none)) else (none)) else (none)) else ((reclaim_Fold.f k x11 x12).bind fun bt279 => (if bt279.2 = 0 then (if (bt279.1.length : Int) = (x11.length : Int) then (if 0 < (bt279.1.length : Int) then (if (rd bt279.1 0) = x9 then (if 1 < (bt279.1.length : Int) then (wageofficelaw41_ReclaimTooMuch.j1 k x7 x8 x9 x10 x11 bt279.1 ((rd bt279.1 1) != x9)) else (none)) else (wageofficelaw41_ReclaimTooMuch.j1 k x7 x8 x9 x10 x11 bt279.1 true)) else (none)) else (wageofficelaw41_ReclaimTooMuch.j1 k x7 x8 x9 x10 x11 bt279.1 true)) else (wageofficelaw41_ReclaimTooMuch.j1 k x7 x8 x9 x10 x11 bt279.1 true)))
def wageofficelaw41_ReclaimTooMuch.j1 : Nat → Bool → List Int → Int → Int → List Int → List Int → Bool → Option (Bool)
  | 0, _, _, _, _, _, _, _ => none
  | k + 1, x7, x8, x9, x10, x11, x15, x84 => if x84 = true then (none) else (wageofficelaw41_ReclaimTooMuch.l1 k x7 x8 x9 x10 x11 x15 0)
def wageofficelaw41_ReclaimTooMuch.l1 : Nat → Bool → List Int → Int → Int → List Int → List Int → Int → Option (Bool)
  | 0, _, _, _, _, _, _, _ => none
  | k + 1, x7, x8, x9, x10, x11, x15, x17 => if x17 ≤ (x8.length : Int) then (if 0 ≤ x17 then ((reclaim_Schedule.f k x9 x10 (x8.take (x17 : Int).toNat)).bind fun bt289 => (if (bt289.1.length : Int) > 0 then (if x17 > 0 then (if 0 ≤ (wrap64 ((bt289.1.length : Int) - 1)) then (if (wrap64 ((bt289.1.length : Int) - 1)) < (bt289.1.length : Int) then (wageofficelaw41_ReclaimTooMuch.j3 k x7 x8 x9 x10 x11 x15 x17 bt289.1 bt289.2.1 bt289.2.2 0 (((rd_T41 bt289.1 (wrap64 ((bt289.1.length : Int) - 1))).f0) == (wrap64 ((wrap64 (x10 + x17)) - 1)))) else (none)) else (none)) else (wageofficelaw41_ReclaimTooMuch.j3 k x7 x8 x9 x10 x11 x15 x17 bt289.1 bt289.2.1 bt289.2.2 0 false)) else (wageofficelaw41_ReclaimTooMuch.j3 k x7 x8 x9 x10 x11 x15 x17 bt289.1 bt289.2.1 bt289.2.2 0 false))) else (none)) else (some x7)
def wageofficelaw41_ReclaimTooMuch.j3 : Nat → Bool → List Int → Int → Int → List Int → List Int → Int → List (S41) → Int → Int → Int → Bool → Option (Bool)
  | 0, _, _, _, _, _, _, _, _, _, _, _, _ => none
  | k + 1, x7, x8, x9, x10, x11, x15, x17, x18, x19, x20, x21, x121 => if x121 = true then (if 0 ≤ (wrap64 ((x18.length : Int) - 1)) then (if (wrap64 ((x18.length : Int) - 1)) < (x18.length : Int) then (if x7 = true then (if x20 = 0 then (if 0 ≤ (wrap64 (x17 + 1)) then (if (wrap64 (x17 + 1)) < (x15.length : Int) then (if (wrap64 (x17 + 1)) < (x11.length : Int) then (if (wrap64 ((rd x15 (wrap64 (x17 + 1))) - (rd x11 (wrap64 (x17 + 1))))) = x19 then (if x17 = 0 then (wageofficelaw41_ReclaimTooMuch.l1 k true x8 x9 x10 x11 x15 (wrap64 (x17 + 1))) else (if 0 ≤ x17 then (if x17 < (x15.length : Int) then (if 0 ≤ (wrap64 (x17 - 1)) then (if (wrap64 (x17 - 1)) < (x8.length : Int) then (wageofficelaw41_ReclaimTooMuch.l1 k ((wrap64 ((rd x15 (wrap64 (x17 + 1))) - (rd x15 x17))) == (wrap64 ((rd x8 (wrap64 (x17 - 1))) - ((rd_T41 x18 (wrap64 ((x18.length : Int) - 1))).f1)))) x8 x9 x10 x11 x15 (wrap64 (x17 + 1))) else (none)) else (none)) else (none)) else (none))) else (none)) else (none)) else (none)) else (none)) else (none)) else (none)) else (none)) else (none)) else (if x7 = true then (if x20 = 0 then (if 0 ≤ (wrap64 (x17 + 1)) then (if (wrap64 (x17 + 1)) < (x15.length : Int) then (if (wrap64 (x17 + 1)) < (x11.length : Int) then (if (wrap64 ((rd x15 (wrap64 (x17 + 1))) - (rd x11 (wrap64 (x17 + 1))))) = x19 then (if x17 = 0 then (wageofficelaw41_ReclaimTooMuch.l1 k true x8 x9 x10 x11 x15 (wrap64 (x17 + 1))) else (if 0 ≤ x17 then (if x17 < (x15.length : Int) then (if 0 ≤ (wrap64 (x17 - 1)) then (if (wrap64 (x17 - 1)) < (x8.length : Int) then (wageofficelaw41_ReclaimTooMuch.l1 k ((wrap64 ((rd x15 (wrap64 (x17 + 1))) - (rd x15 x17))) == (wrap64 ((rd x8 (wrap64 (x17 - 1))) - x21))) x8 x9 x10 x11 x15 (wrap64 (x17 + 1))) else (none)) else (none)) else (none)) else (none))) else (none)) else (none)) else (none)) else (none)) else (none)) else (none))
end
def wageofficelaw41_ReclaimTooMuch.f (k : Nat) (a0 : Int) (l1 : List Int) (a2 : Int) : Option (Bool) := (wageofficelaw41_head.f k).bind fun t259 => ((wageofficelaw41_amounts.f k l1).bind fun t260 => ((wageofficelaw41_pick.f a0 1000000001).bind fun t263 => ((wageofficelaw41_pick.f a2 1159).bind fun t264 => (wageofficelaw41_ReclaimTooMuch.l0 k t259 t260 t263 t264 (([t263, 0] : List Int)) (([t263, 0] : List Int)) 0 0))))
theorem wageofficelaw41_ReclaimTooMuch.mono_l : ∀ k, (∀ y0 y1 y2 y3 y4 y5 y6 y7, LeO (wageofficelaw41_ReclaimTooMuch.l0 k y0 y1 y2 y3 y4 y5 y6 y7) (wageofficelaw41_ReclaimTooMuch.l0 (k + 1) y0 y1 y2 y3 y4 y5 y6 y7)) ∧ (∀ y0 y1 y2 y3 y4 y5 y6, LeO (wageofficelaw41_ReclaimTooMuch.j1 k y0 y1 y2 y3 y4 y5 y6) (wageofficelaw41_ReclaimTooMuch.j1 (k + 1) y0 y1 y2 y3 y4 y5 y6)) ∧ (∀ y0 y1 y2 y3 y4 y5 y6, LeO (wageofficelaw41_ReclaimTooMuch.l1 k y0 y1 y2 y3 y4 y5 y6) (wageofficelaw41_ReclaimTooMuch.l1 (k + 1) y0 y1 y2 y3 y4 y5 y6)) ∧ (∀ y0 y1 y2 y3 y4 y5 y6 y7 y8 y9 y10 y11, LeO (wageofficelaw41_ReclaimTooMuch.j3 k y0 y1 y2 y3 y4 y5 y6 y7 y8 y9 y10 y11) (wageofficelaw41_ReclaimTooMuch.j3 (k + 1) y0 y1 y2 y3 y4 y5 y6 y7 y8 y9 y10 y11))
  | 0 => ⟨fun _ _ _ _ _ _ _ _ r h => by simp [wageofficelaw41_ReclaimTooMuch.l0] at h, fun _ _ _ _ _ _ _ r h => by simp [wageofficelaw41_ReclaimTooMuch.j1] at h, fun _ _ _ _ _ _ _ r h => by simp [wageofficelaw41_ReclaimTooMuch.l1] at h, fun _ _ _ _ _ _ _ _ _ _ _ _ r h => by simp [wageofficelaw41_ReclaimTooMuch.j3] at h⟩
  | k + 1 => by
    obtain ⟨ih0, ih1, ih2, ih3⟩ := wageofficelaw41_ReclaimTooMuch.mono_l k
    refine ⟨?_, ?_, ?_, ?_⟩
    · intro y0 y1 y2 y3 y4 y5 y6 y7
      unfold wageofficelaw41_ReclaimTooMuch.l0
      repeat' first
      | (with_reducible exact ih0 _ _ _ _ _ _ _ _)
      | (with_reducible exact ih1 _ _ _ _ _ _ _)
      | (with_reducible exact ih2 _ _ _ _ _ _ _)
      | (with_reducible exact ih3 _ _ _ _ _ _ _ _ _ _ _ _)
      | (with_reducible exact reclaim_Fold.mono _ _ _)
      | (with_reducible exact reclaim_Schedule.mono _ _ _ _)
      | (with_reducible exact wageofficelaw41_amounts.mono _ _)
      | (with_reducible exact wageofficelaw41_head.mono _)
      | (with_reducible exact LeO.refl _)
      | (with_reducible exact LeO.none _)
      | (with_reducible refine LeO.ite ?_ ?_)
      | (with_reducible refine LeO.bind ?_ (fun _ => ?_))
      | exact ih0 _ _ _ _ _ _ _ _
      | exact ih1 _ _ _ _ _ _ _
      | exact ih2 _ _ _ _ _ _ _
      | exact ih3 _ _ _ _ _ _ _ _ _ _ _ _
      | exact reclaim_Fold.mono _ _ _
      | exact reclaim_Schedule.mono _ _ _ _
      | exact wageofficelaw41_amounts.mono _ _
      | exact wageofficelaw41_head.mono _
      | exact LeO.none _
      | refine LeO.ite ?_ ?_
      | refine LeO.bind ?_ (fun _ => ?_)
    · intro y0 y1 y2 y3 y4 y5 y6
      unfold wageofficelaw41_ReclaimTooMuch.j1
      repeat' first
      | (with_reducible exact ih0 _ _ _ _ _ _ _ _)
      | (with_reducible exact ih1 _ _ _ _ _ _ _)
      | (with_reducible exact ih2 _ _ _ _ _ _ _)
      | (with_reducible exact ih3 _ _ _ _ _ _ _ _ _ _ _ _)
      | (with_reducible exact reclaim_Fold.mono _ _ _)
      | (with_reducible exact reclaim_Schedule.mono _ _ _ _)
      | (with_reducible exact wageofficelaw41_amounts.mono _ _)
      | (with_reducible exact wageofficelaw41_head.mono _)
      | (with_reducible exact LeO.refl _)
      | (with_reducible exact LeO.none _)
      | (with_reducible refine LeO.ite ?_ ?_)
      | (with_reducible refine LeO.bind ?_ (fun _ => ?_))
      | exact ih0 _ _ _ _ _ _ _ _
      | exact ih1 _ _ _ _ _ _ _
      | exact ih2 _ _ _ _ _ _ _
      | exact ih3 _ _ _ _ _ _ _ _ _ _ _ _
      | exact reclaim_Fold.mono _ _ _
      | exact reclaim_Schedule.mono _ _ _ _
      | exact wageofficelaw41_amounts.mono _ _
      | exact wageofficelaw41_head.mono _
      | exact LeO.none _
      | refine LeO.ite ?_ ?_
      | refine LeO.bind ?_ (fun _ => ?_)
    · intro y0 y1 y2 y3 y4 y5 y6
      unfold wageofficelaw41_ReclaimTooMuch.l1
      repeat' first
      | (with_reducible exact ih0 _ _ _ _ _ _ _ _)
      | (with_reducible exact ih1 _ _ _ _ _ _ _)
      | (with_reducible exact ih2 _ _ _ _ _ _ _)
      | (with_reducible exact ih3 _ _ _ _ _ _ _ _ _ _ _ _)
      | (with_reducible exact reclaim_Fold.mono _ _ _)
      | (with_reducible exact reclaim_Schedule.mono _ _ _ _)
      | (with_reducible exact wageofficelaw41_amounts.mono _ _)
      | (with_reducible exact wageofficelaw41_head.mono _)
      | (with_reducible exact LeO.refl _)
      | (with_reducible exact LeO.none _)
      | (with_reducible refine LeO.ite ?_ ?_)
      | (with_reducible refine LeO.bind ?_ (fun _ => ?_))
      | exact ih0 _ _ _ _ _ _ _ _
      | exact ih1 _ _ _ _ _ _ _
      | exact ih2 _ _ _ _ _ _ _
      | exact ih3 _ _ _ _ _ _ _ _ _ _ _ _
      | exact reclaim_Fold.mono _ _ _
      | exact reclaim_Schedule.mono _ _ _ _
      | exact wageofficelaw41_amounts.mono _ _
      | exact wageofficelaw41_head.mono _
      | exact LeO.none _
      | refine LeO.ite ?_ ?_
      | refine LeO.bind ?_ (fun _ => ?_)
    · intro y0 y1 y2 y3 y4 y5 y6 y7 y8 y9 y10 y11
      unfold wageofficelaw41_ReclaimTooMuch.j3
      repeat' first
      | (with_reducible exact ih0 _ _ _ _ _ _ _ _)
      | (with_reducible exact ih1 _ _ _ _ _ _ _)
      | (with_reducible exact ih2 _ _ _ _ _ _ _)
      | (with_reducible exact ih3 _ _ _ _ _ _ _ _ _ _ _ _)
      | (with_reducible exact reclaim_Fold.mono _ _ _)
      | (with_reducible exact reclaim_Schedule.mono _ _ _ _)
      | (with_reducible exact wageofficelaw41_amounts.mono _ _)
      | (with_reducible exact wageofficelaw41_head.mono _)
      | (with_reducible exact LeO.refl _)
      | (with_reducible exact LeO.none _)
      | (with_reducible refine LeO.ite ?_ ?_)
      | (with_reducible refine LeO.bind ?_ (fun _ => ?_))
      | exact ih0 _ _ _ _ _ _ _ _
      | exact ih1 _ _ _ _ _ _ _
      | exact ih2 _ _ _ _ _ _ _
      | exact ih3 _ _ _ _ _ _ _ _ _ _ _ _
      | exact reclaim_Fold.mono _ _ _
      | exact reclaim_Schedule.mono _ _ _ _
      | exact wageofficelaw41_amounts.mono _ _
      | exact wageofficelaw41_head.mono _
      | exact LeO.none _
      | refine LeO.ite ?_ ?_
      | refine LeO.bind ?_ (fun _ => ?_)
theorem wageofficelaw41_ReclaimTooMuch.mono : ∀ a0 a1 a2 k, LeO (wageofficelaw41_ReclaimTooMuch.f k a0 a1 a2) (wageofficelaw41_ReclaimTooMuch.f (k + 1) a0 a1 a2) := by
  intro a0 a1 a2 k
  obtain ⟨ih0, ih1, ih2, ih3⟩ := wageofficelaw41_ReclaimTooMuch.mono_l k
  unfold wageofficelaw41_ReclaimTooMuch.f
  repeat' first
      | (with_reducible exact ih0 _ _ _ _ _ _ _ _)
      | (with_reducible exact ih1 _ _ _ _ _ _ _)
      | (with_reducible exact ih2 _ _ _ _ _ _ _)
      | (with_reducible exact ih3 _ _ _ _ _ _ _ _ _ _ _ _)
      | (with_reducible exact reclaim_Fold.mono _ _ _)
      | (with_reducible exact reclaim_Schedule.mono _ _ _ _)
      | (with_reducible exact wageofficelaw41_amounts.mono _ _)
      | (with_reducible exact wageofficelaw41_head.mono _)
      | (with_reducible exact LeO.refl _)
      | (with_reducible exact LeO.none _)
      | (with_reducible refine LeO.ite ?_ ?_)
      | (with_reducible refine LeO.bind ?_ (fun _ => ?_))
      | exact ih0 _ _ _ _ _ _ _ _
      | exact ih1 _ _ _ _ _ _ _
      | exact ih2 _ _ _ _ _ _ _
      | exact ih3 _ _ _ _ _ _ _ _ _ _ _ _
      | exact reclaim_Fold.mono _ _ _
      | exact reclaim_Schedule.mono _ _ _ _
      | exact wageofficelaw41_amounts.mono _ _
      | exact wageofficelaw41_head.mono _
      | exact LeO.none _
      | refine LeO.ite ?_ ?_
      | refine LeO.bind ?_ (fun _ => ?_)
set_option maxHeartbeats 8000000 in
set_option maxRecDepth 100000 in
theorem wageofficelaw41_ReclaimTooMuch.calls (k : Nat) (a0 : Int) (A1 : Option Addr) (c1 : Nat) (l1 : List Int) (a2 : Int) (r : Bool) (w : World) (hr1 : Kd.C (Kd.int .i64) w A1 l1.length l1) (hc1 : l1.length ≤ c1) (h : wageofficelaw41_ReclaimTooMuch.f k a0 l1 a2 = some r) :
    Calls Try.prog 6 #[.int .i64 a0, .slice A1 l1.length c1, .int .i64 a2] w fun e w' => e = .returned (.bool r) ∧ Below w.heap.size w w' := by
  have HR1 := Aside0.mk hr1
  have HC1 := Aside0.mk hc1
  clear hr1 hc1
  have HB := Aside0.mk (Below.refl w.heap.size w)
  have H : ((wageofficelaw41_head.f k).bind fun t259 => ((wageofficelaw41_amounts.f k l1).bind fun t260 => ((wageofficelaw41_pick.f a0 1000000001).bind fun t263 => ((wageofficelaw41_pick.f a2 1159).bind fun t264 => (wageofficelaw41_ReclaimTooMuch.l0 k t259 t260 t263 t264 (([t263, 0] : List Int)) (([t263, 0] : List Int)) 0 0))))) = some r := h
  clear h
  replace H := Option.bind_eq_some_iff.mp H
  obtain ⟨t259, A40, H⟩ := H
  replace H : ((wageofficelaw41_amounts.f k l1).bind fun t260 => ((wageofficelaw41_pick.f a0 1000000001).bind fun t263 => ((wageofficelaw41_pick.f a2 1159).bind fun t264 => (wageofficelaw41_ReclaimTooMuch.l0 k t259 t260 t263 t264 (([t263, 0] : List Int)) (([t263, 0] : List Int)) 0 0)))) = some r := H
  have A4 := Aside0.mk A40
  clear A40
  replace H := Option.bind_eq_some_iff.mp H
  obtain ⟨t260, A50, H⟩ := H
  replace H : ((wageofficelaw41_pick.f a0 1000000001).bind fun t263 => ((wageofficelaw41_pick.f a2 1159).bind fun t264 => (wageofficelaw41_ReclaimTooMuch.l0 k t259 t260 t263 t264 (([t263, 0] : List Int)) (([t263, 0] : List Int)) 0 0))) = some r := H
  have A5 := Aside0.mk A50
  clear A50
  replace H := Option.bind_eq_some_iff.mp H
  obtain ⟨t263, A60, H⟩ := H
  replace H : ((wageofficelaw41_pick.f a2 1159).bind fun t264 => (wageofficelaw41_ReclaimTooMuch.l0 k t259 t260 t263 t264 (([t263, 0] : List Int)) (([t263, 0] : List Int)) 0 0)) = some r := H
  have A6 := Aside0.mk A60
  clear A60
  replace H := Option.bind_eq_some_iff.mp H
  obtain ⟨t264, A70, H⟩ := H
  replace H : (wageofficelaw41_ReclaimTooMuch.l0 k t259 t260 t263 t264 (([t263, 0] : List Int)) (([t263, 0] : List Int)) 0 0) = some r := H
  have A7 := Aside0.mk A70
  clear A70
  obtain ⟨y265, hy265⟩ : ∃ y_ : List Int, y_ = (([t263, 0] : List Int)) := ⟨_, rfl⟩
  replace H : (wageofficelaw41_ReclaimTooMuch.l0 k t259 t260 t263 t264 y265 (([t263, 0] : List Int)) 0 0) = some r := by first | (rw [hy265]; with_reducible exact H) | (have H2_ := (Option.bind_some _ _).symm.trans H; rw [hy265]; with_reducible exact H2_) | (have H2_ := (Option.bind_some _ _).symm.trans H; with_reducible exact H2_) | with_reducible exact H | (rw [hy265]; exact H) | exact H
  have Ny265 := Aside0.mk hy265
  clear hy265
  obtain ⟨y268, hy268⟩ : ∃ y_ : List Int, y_ = (([t263, 0] : List Int)) := ⟨_, rfl⟩
  replace H : (wageofficelaw41_ReclaimTooMuch.l0 k t259 t260 t263 t264 y265 y268 0 0) = some r := by first | (rw [hy268]; with_reducible exact H) | (have H2_ := (Option.bind_some _ _).symm.trans H; rw [hy268]; with_reducible exact H2_) | (have H2_ := (Option.bind_some _ _).symm.trans H; with_reducible exact H2_) | with_reducible exact H | (rw [hy268]; exact H) | exact H
  have Ny268 := Aside0.mk hy268
  clear hy268
  have H' := Aside0.mk H
  clear H
  go_enter Try.func6, Try.ntmps6
  go_wp2_with (first | (go_at_call 8; (with_reducible refine (wageofficelaw41_head.calls k  t259 _ A4.out).mono ?_); rintro e w8 ⟨rfl, hb⟩; have n0_ := Aside0.mk (below_step (by repeat (first | (with_reducible first | exact HB.out | apply below_alloc | apply pw_below_drewN | apply below_drew1) | exact HB.out)) hb); clear HB; have HB := n0_; clear n0_; (try clear hb); (try clear hb2); (try clear hk); (try clear hi)) | (go_at_call 9; (with_reducible refine (wageofficelaw41_amounts.calls k _ _ l1 t260 _ ?side1 ?side2 A5.out).mono ?_); (case side1 => repeat (first | exact (Kd.C_below HR1.out HB.out) | (with_reducible refine Kd.C_alloc ?_ _) | (with_reducible refine Kd.C_drewN ?_ _) | (with_reducible refine Kd.C_drew ?_))); (case side2 => exact HC1.out); rintro e w9 ⟨v261, rfl, ho0, hb⟩; have n0_ := Aside0.mk (Kd.R_lower ho0 (below_size (by repeat (first | (with_reducible first | exact HB.out | apply below_alloc | apply pw_below_drewN | apply below_drew1) | exact HB.out)))); have n1_ := Aside0.mk (below_step (by repeat (first | (with_reducible first | exact HB.out | apply below_alloc | apply pw_below_drewN | apply below_drew1) | exact HB.out)) hb); clear HB; have HO262 := n0_; have HB := n1_; clear n0_ n1_; (try clear hb); (try clear hb2); (try clear hk); (try clear hi); (try clear ho0)) | (go_at_call 14; (with_reducible refine (wageofficelaw41_pick.calls a0 1000000001 t263 _ A6.out).mono ?_); rintro e w' ⟨rfl, ⟨nd, rfl⟩⟩; (try first | exact ⟨rfl, _, World.drewN_drewN _ _ _⟩ | exact ⟨rfl, _, Eq.trans (World.drewN_drewN _ _ _) (congrArg (World.drewN _) (Nat.add_assoc _ _ _))⟩)) | (go_at_call 14; (with_reducible refine (wageofficelaw41_pick.calls a2 1159 t264 _ A7.out).mono ?_); rintro e w' ⟨rfl, ⟨nd, rfl⟩⟩; (try first | exact ⟨rfl, _, World.drewN_drewN _ _ _⟩ | exact ⟨rfl, _, Eq.trans (World.drewN_drewN _ _ _) (congrArg (World.drewN _) (Nat.add_assoc _ _ _))⟩)) | ((with_reducible refine gate_dst (N := 30) rfl ?_); (try (refine gate_guard (by rfl) ?_; dsimp only)); refine Kd.R_lit (Kd.int .i64) _ 3 ?hg (N := 30) ?hd (xs := ([t263, 0] : List Int)) (inner := [.int .i64 t263, .int .i64 0]) (ok := fun _ => True) (okp := fun _ => True) ?hr ?hp (fun _ hk => hk) trivial (Below.refl _ _) (Nat.le_refl _) (by simp) ?_; (case hd => rfl); (case hg => rfl); (case hr => first | (go_simp; done) | (go_simp; rfl)); (case hp => exact (Reps.one (show Kd.M (Kd.int .i64) _ _ _ t263 [.int .i64 t263] from rfl) (Reps.one (show Kd.M (Kd.int .i64) _ _ _ 0 [.int .i64 0] from rfl) (Reps.none _ _)))); intro v266 w10 ho11 hb hg_ hnew_; clear hg_ hnew_; (first | rw [← Ny265.out] at ho11 | (simp only [Int.reduceToNat] at ho11; rw [← Ny265.out] at ho11)); have n0_ := Aside0.mk (Kd.R_elder' (by (with_reducible repeat (first | apply Kd.R_alloc | apply Kd.R_drewN | apply Kd.R_drew)); exact HO262.out) (Kd.R_base ho11) hb); have n1_ := Aside0.mk (Kd.R_lower (Kd.R_new' ho11 (Kd.R_lt (by (with_reducible repeat (first | apply Kd.R_alloc | apply Kd.R_drewN | apply Kd.R_drew)); exact HO262.out))) (below_size (by repeat (first | (with_reducible first | exact HB.out | apply below_alloc | apply pw_below_drewN | apply below_drew1) | exact HB.out)))); have n2_ := Aside0.mk (below_step (by repeat (first | (with_reducible first | exact HB.out | apply below_alloc | apply pw_below_drewN | apply below_drew1) | exact HB.out)) hb); clear HO262; clear HB; have HO262 := n0_; have HO267 := n1_; have HB := n2_; clear n0_ n1_ n2_; clear hb ho11) | ((with_reducible refine gate_dst (N := 32) rfl ?_); (try (refine gate_guard (by rfl) ?_; dsimp only)); refine Kd.R_lit (Kd.int .i64) _ 3 ?hg (N := 32) ?hd (xs := ([t263, 0] : List Int)) (inner := [.int .i64 t263, .int .i64 0]) (ok := fun _ => True) (okp := fun _ => True) ?hr ?hp (fun _ hk => hk) trivial (Below.refl _ _) (Nat.le_refl _) (by simp) ?_; (case hd => rfl); (case hg => rfl); (case hr => first | (go_simp; done) | (go_simp; rfl)); (case hp => exact (Reps.one (show Kd.M (Kd.int .i64) _ _ _ t263 [.int .i64 t263] from rfl) (Reps.one (show Kd.M (Kd.int .i64) _ _ _ 0 [.int .i64 0] from rfl) (Reps.none _ _)))); intro v269 w12 ho13 hb hg_ hnew_; clear hg_ hnew_; (first | rw [← Ny268.out] at ho13 | (simp only [Int.reduceToNat] at ho13; rw [← Ny268.out] at ho13)); have n0_ := Aside0.mk (Kd.R_elder' (by (with_reducible repeat (first | apply Kd.R_alloc | apply Kd.R_drewN | apply Kd.R_drew)); exact HO262.out) (Kd.R_base ho13) hb); have n1_ := Aside0.mk (Kd.R_elder' (by (with_reducible repeat (first | apply Kd.R_alloc | apply Kd.R_drewN | apply Kd.R_drew)); exact HO267.out) (Kd.R_base ho13) hb); have n2_ := Aside0.mk (Kd.R_lower (Kd.R_new' (Kd.R_new' ho13 (Kd.R_lt (by (with_reducible repeat (first | apply Kd.R_alloc | apply Kd.R_drewN | apply Kd.R_drew)); exact HO262.out))) (Kd.R_lt (by (with_reducible repeat (first | apply Kd.R_alloc | apply Kd.R_drewN | apply Kd.R_drew)); exact HO267.out))) (below_size (by repeat (first | (with_reducible first | exact HB.out | apply below_alloc | apply pw_below_drewN | apply below_drew1) | exact HB.out)))); have n3_ := Aside0.mk (below_step (by repeat (first | (with_reducible first | exact HB.out | apply below_alloc | apply pw_below_drewN | apply below_drew1) | exact HB.out)) hb); clear HO262; clear HO267; clear HB; have HO262 := n0_; have HO267 := n1_; have HO270 := n2_; have HB := n3_; clear n0_ n1_ n2_ n3_; clear hb ho13))
  repeat (go_quiet (first | (go_at_call 8; (with_reducible refine (wageofficelaw41_head.calls k  t259 _ A4.out).mono ?_); rintro e w8 ⟨rfl, hb⟩; have n0_ := Aside0.mk (below_step (by repeat (first | (with_reducible first | exact HB.out | apply below_alloc | apply pw_below_drewN | apply below_drew1) | exact HB.out)) hb); clear HB; have HB := n0_; clear n0_; (try clear hb); (try clear hb2); (try clear hk); (try clear hi)) | (go_at_call 9; (with_reducible refine (wageofficelaw41_amounts.calls k _ _ l1 t260 _ ?side1 ?side2 A5.out).mono ?_); (case side1 => repeat (first | exact (Kd.C_below HR1.out HB.out) | (with_reducible refine Kd.C_alloc ?_ _) | (with_reducible refine Kd.C_drewN ?_ _) | (with_reducible refine Kd.C_drew ?_))); (case side2 => exact HC1.out); rintro e w9 ⟨v261, rfl, ho0, hb⟩; have n0_ := Aside0.mk (Kd.R_lower ho0 (below_size (by repeat (first | (with_reducible first | exact HB.out | apply below_alloc | apply pw_below_drewN | apply below_drew1) | exact HB.out)))); have n1_ := Aside0.mk (below_step (by repeat (first | (with_reducible first | exact HB.out | apply below_alloc | apply pw_below_drewN | apply below_drew1) | exact HB.out)) hb); clear HB; have HO262 := n0_; have HB := n1_; clear n0_ n1_; (try clear hb); (try clear hb2); (try clear hk); (try clear hi); (try clear ho0)) | (go_at_call 14; (with_reducible refine (wageofficelaw41_pick.calls a0 1000000001 t263 _ A6.out).mono ?_); rintro e w' ⟨rfl, ⟨nd, rfl⟩⟩; (try first | exact ⟨rfl, _, World.drewN_drewN _ _ _⟩ | exact ⟨rfl, _, Eq.trans (World.drewN_drewN _ _ _) (congrArg (World.drewN _) (Nat.add_assoc _ _ _))⟩)) | (go_at_call 14; (with_reducible refine (wageofficelaw41_pick.calls a2 1159 t264 _ A7.out).mono ?_); rintro e w' ⟨rfl, ⟨nd, rfl⟩⟩; (try first | exact ⟨rfl, _, World.drewN_drewN _ _ _⟩ | exact ⟨rfl, _, Eq.trans (World.drewN_drewN _ _ _) (congrArg (World.drewN _) (Nat.add_assoc _ _ _))⟩)) | ((with_reducible refine gate_dst (N := 30) rfl ?_); (try (refine gate_guard (by rfl) ?_; dsimp only)); refine Kd.R_lit (Kd.int .i64) _ 3 ?hg (N := 30) ?hd (xs := ([t263, 0] : List Int)) (inner := [.int .i64 t263, .int .i64 0]) (ok := fun _ => True) (okp := fun _ => True) ?hr ?hp (fun _ hk => hk) trivial (Below.refl _ _) (Nat.le_refl _) (by simp) ?_; (case hd => rfl); (case hg => rfl); (case hr => first | (go_simp; done) | (go_simp; rfl)); (case hp => exact (Reps.one (show Kd.M (Kd.int .i64) _ _ _ t263 [.int .i64 t263] from rfl) (Reps.one (show Kd.M (Kd.int .i64) _ _ _ 0 [.int .i64 0] from rfl) (Reps.none _ _)))); intro v266 w10 ho11 hb hg_ hnew_; clear hg_ hnew_; (first | rw [← Ny265.out] at ho11 | (simp only [Int.reduceToNat] at ho11; rw [← Ny265.out] at ho11)); have n0_ := Aside0.mk (Kd.R_elder' (by (with_reducible repeat (first | apply Kd.R_alloc | apply Kd.R_drewN | apply Kd.R_drew)); exact HO262.out) (Kd.R_base ho11) hb); have n1_ := Aside0.mk (Kd.R_lower (Kd.R_new' ho11 (Kd.R_lt (by (with_reducible repeat (first | apply Kd.R_alloc | apply Kd.R_drewN | apply Kd.R_drew)); exact HO262.out))) (below_size (by repeat (first | (with_reducible first | exact HB.out | apply below_alloc | apply pw_below_drewN | apply below_drew1) | exact HB.out)))); have n2_ := Aside0.mk (below_step (by repeat (first | (with_reducible first | exact HB.out | apply below_alloc | apply pw_below_drewN | apply below_drew1) | exact HB.out)) hb); clear HO262; clear HB; have HO262 := n0_; have HO267 := n1_; have HB := n2_; clear n0_ n1_ n2_; clear hb ho11) | ((with_reducible refine gate_dst (N := 32) rfl ?_); (try (refine gate_guard (by rfl) ?_; dsimp only)); refine Kd.R_lit (Kd.int .i64) _ 3 ?hg (N := 32) ?hd (xs := ([t263, 0] : List Int)) (inner := [.int .i64 t263, .int .i64 0]) (ok := fun _ => True) (okp := fun _ => True) ?hr ?hp (fun _ hk => hk) trivial (Below.refl _ _) (Nat.le_refl _) (by simp) ?_; (case hd => rfl); (case hg => rfl); (case hr => first | (go_simp; done) | (go_simp; rfl)); (case hp => exact (Reps.one (show Kd.M (Kd.int .i64) _ _ _ t263 [.int .i64 t263] from rfl) (Reps.one (show Kd.M (Kd.int .i64) _ _ _ 0 [.int .i64 0] from rfl) (Reps.none _ _)))); intro v269 w12 ho13 hb hg_ hnew_; clear hg_ hnew_; (first | rw [← Ny268.out] at ho13 | (simp only [Int.reduceToNat] at ho13; rw [← Ny268.out] at ho13)); have n0_ := Aside0.mk (Kd.R_elder' (by (with_reducible repeat (first | apply Kd.R_alloc | apply Kd.R_drewN | apply Kd.R_drew)); exact HO262.out) (Kd.R_base ho13) hb); have n1_ := Aside0.mk (Kd.R_elder' (by (with_reducible repeat (first | apply Kd.R_alloc | apply Kd.R_drewN | apply Kd.R_drew)); exact HO267.out) (Kd.R_base ho13) hb); have n2_ := Aside0.mk (Kd.R_lower (Kd.R_new' (Kd.R_new' ho13 (Kd.R_lt (by (with_reducible repeat (first | apply Kd.R_alloc | apply Kd.R_drewN | apply Kd.R_drew)); exact HO262.out))) (Kd.R_lt (by (with_reducible repeat (first | apply Kd.R_alloc | apply Kd.R_drewN | apply Kd.R_drew)); exact HO267.out))) (below_size (by repeat (first | (with_reducible first | exact HB.out | apply below_alloc | apply pw_below_drewN | apply below_drew1) | exact HB.out)))); have n3_ := Aside0.mk (below_step (by repeat (first | (with_reducible first | exact HB.out | apply below_alloc | apply pw_below_drewN | apply below_drew1) | exact HB.out)) hb); clear HO262; clear HO267; clear HB; have HO262 := n0_; have HO267 := n1_; have HO270 := n2_; have HB := n3_; clear n0_ n1_ n2_ n3_; clear hb ho13)); try go_wp2_with (first | (go_at_call 8; (with_reducible refine (wageofficelaw41_head.calls k  t259 _ A4.out).mono ?_); rintro e w8 ⟨rfl, hb⟩; have n0_ := Aside0.mk (below_step (by repeat (first | (with_reducible first | exact HB.out | apply below_alloc | apply pw_below_drewN | apply below_drew1) | exact HB.out)) hb); clear HB; have HB := n0_; clear n0_; (try clear hb); (try clear hb2); (try clear hk); (try clear hi)) | (go_at_call 9; (with_reducible refine (wageofficelaw41_amounts.calls k _ _ l1 t260 _ ?side1 ?side2 A5.out).mono ?_); (case side1 => repeat (first | exact (Kd.C_below HR1.out HB.out) | (with_reducible refine Kd.C_alloc ?_ _) | (with_reducible refine Kd.C_drewN ?_ _) | (with_reducible refine Kd.C_drew ?_))); (case side2 => exact HC1.out); rintro e w9 ⟨v261, rfl, ho0, hb⟩; have n0_ := Aside0.mk (Kd.R_lower ho0 (below_size (by repeat (first | (with_reducible first | exact HB.out | apply below_alloc | apply pw_below_drewN | apply below_drew1) | exact HB.out)))); have n1_ := Aside0.mk (below_step (by repeat (first | (with_reducible first | exact HB.out | apply below_alloc | apply pw_below_drewN | apply below_drew1) | exact HB.out)) hb); clear HB; have HO262 := n0_; have HB := n1_; clear n0_ n1_; (try clear hb); (try clear hb2); (try clear hk); (try clear hi); (try clear ho0)) | (go_at_call 14; (with_reducible refine (wageofficelaw41_pick.calls a0 1000000001 t263 _ A6.out).mono ?_); rintro e w' ⟨rfl, ⟨nd, rfl⟩⟩; (try first | exact ⟨rfl, _, World.drewN_drewN _ _ _⟩ | exact ⟨rfl, _, Eq.trans (World.drewN_drewN _ _ _) (congrArg (World.drewN _) (Nat.add_assoc _ _ _))⟩)) | (go_at_call 14; (with_reducible refine (wageofficelaw41_pick.calls a2 1159 t264 _ A7.out).mono ?_); rintro e w' ⟨rfl, ⟨nd, rfl⟩⟩; (try first | exact ⟨rfl, _, World.drewN_drewN _ _ _⟩ | exact ⟨rfl, _, Eq.trans (World.drewN_drewN _ _ _) (congrArg (World.drewN _) (Nat.add_assoc _ _ _))⟩)) | ((with_reducible refine gate_dst (N := 30) rfl ?_); (try (refine gate_guard (by rfl) ?_; dsimp only)); refine Kd.R_lit (Kd.int .i64) _ 3 ?hg (N := 30) ?hd (xs := ([t263, 0] : List Int)) (inner := [.int .i64 t263, .int .i64 0]) (ok := fun _ => True) (okp := fun _ => True) ?hr ?hp (fun _ hk => hk) trivial (Below.refl _ _) (Nat.le_refl _) (by simp) ?_; (case hd => rfl); (case hg => rfl); (case hr => first | (go_simp; done) | (go_simp; rfl)); (case hp => exact (Reps.one (show Kd.M (Kd.int .i64) _ _ _ t263 [.int .i64 t263] from rfl) (Reps.one (show Kd.M (Kd.int .i64) _ _ _ 0 [.int .i64 0] from rfl) (Reps.none _ _)))); intro v266 w10 ho11 hb hg_ hnew_; clear hg_ hnew_; (first | rw [← Ny265.out] at ho11 | (simp only [Int.reduceToNat] at ho11; rw [← Ny265.out] at ho11)); have n0_ := Aside0.mk (Kd.R_elder' (by (with_reducible repeat (first | apply Kd.R_alloc | apply Kd.R_drewN | apply Kd.R_drew)); exact HO262.out) (Kd.R_base ho11) hb); have n1_ := Aside0.mk (Kd.R_lower (Kd.R_new' ho11 (Kd.R_lt (by (with_reducible repeat (first | apply Kd.R_alloc | apply Kd.R_drewN | apply Kd.R_drew)); exact HO262.out))) (below_size (by repeat (first | (with_reducible first | exact HB.out | apply below_alloc | apply pw_below_drewN | apply below_drew1) | exact HB.out)))); have n2_ := Aside0.mk (below_step (by repeat (first | (with_reducible first | exact HB.out | apply below_alloc | apply pw_below_drewN | apply below_drew1) | exact HB.out)) hb); clear HO262; clear HB; have HO262 := n0_; have HO267 := n1_; have HB := n2_; clear n0_ n1_ n2_; clear hb ho11) | ((with_reducible refine gate_dst (N := 32) rfl ?_); (try (refine gate_guard (by rfl) ?_; dsimp only)); refine Kd.R_lit (Kd.int .i64) _ 3 ?hg (N := 32) ?hd (xs := ([t263, 0] : List Int)) (inner := [.int .i64 t263, .int .i64 0]) (ok := fun _ => True) (okp := fun _ => True) ?hr ?hp (fun _ hk => hk) trivial (Below.refl _ _) (Nat.le_refl _) (by simp) ?_; (case hd => rfl); (case hg => rfl); (case hr => first | (go_simp; done) | (go_simp; rfl)); (case hp => exact (Reps.one (show Kd.M (Kd.int .i64) _ _ _ t263 [.int .i64 t263] from rfl) (Reps.one (show Kd.M (Kd.int .i64) _ _ _ 0 [.int .i64 0] from rfl) (Reps.none _ _)))); intro v269 w12 ho13 hb hg_ hnew_; clear hg_ hnew_; (first | rw [← Ny268.out] at ho13 | (simp only [Int.reduceToNat] at ho13; rw [← Ny268.out] at ho13)); have n0_ := Aside0.mk (Kd.R_elder' (by (with_reducible repeat (first | apply Kd.R_alloc | apply Kd.R_drewN | apply Kd.R_drew)); exact HO262.out) (Kd.R_base ho13) hb); have n1_ := Aside0.mk (Kd.R_elder' (by (with_reducible repeat (first | apply Kd.R_alloc | apply Kd.R_drewN | apply Kd.R_drew)); exact HO267.out) (Kd.R_base ho13) hb); have n2_ := Aside0.mk (Kd.R_lower (Kd.R_new' (Kd.R_new' ho13 (Kd.R_lt (by (with_reducible repeat (first | apply Kd.R_alloc | apply Kd.R_drewN | apply Kd.R_drew)); exact HO262.out))) (Kd.R_lt (by (with_reducible repeat (first | apply Kd.R_alloc | apply Kd.R_drewN | apply Kd.R_drew)); exact HO267.out))) (below_size (by repeat (first | (with_reducible first | exact HB.out | apply below_alloc | apply pw_below_drewN | apply below_drew1) | exact HB.out)))); have n3_ := Aside0.mk (below_step (by repeat (first | (with_reducible first | exact HB.out | apply below_alloc | apply pw_below_drewN | apply below_drew1) | exact HB.out)) hb); clear HO262; clear HO267; clear HB; have HO262 := n0_; have HO267 := n1_; have HO270 := n2_; have HB := n3_; clear n0_ n1_ n2_ n3_; clear hb ho13)))
  go_loopg [11, 12, 13, 14] k (fun kq v11 v12 v13 v14 w' => ∃ (x11_1 : List Int) (x12_1 : List Int) (x13_1 : Int) (x14_1 : Int), v13 = .int .i64 x13_1 ∧ v14 = .int .i64 x14_1 ∧ Aside0 (wageofficelaw41_ReclaimTooMuch.l0 kq t259 t260 t263 t264 x11_1 x12_1 x13_1 x14_1 = some r) ∧ Aside0 (kq ≤ k) ∧ Aside0 (Kd.R (Kd.int .i64) 3 w' w.heap.size (fun k_ => some k_ ≠ (v11 : Value).ownBlock ∧ some k_ ≠ (v12 : Value).ownBlock) v261 t260) ∧ Aside0 (Kd.R (Kd.int .i64) 3 w' w.heap.size (fun k_ => some k_ ≠ (v261 : Value).ownBlock ∧ some k_ ≠ (v12 : Value).ownBlock) v11 x11_1) ∧ Aside0 (Kd.R (Kd.int .i64) 3 w' w.heap.size (fun k_ => some k_ ≠ (v261 : Value).ownBlock ∧ some k_ ≠ (v11 : Value).ownBlock) v12 x12_1) ∧ Aside0 (Below w.heap.size w w'))
  case atStart => exact ⟨(y265), (y268), (0), (0), (by first | rfl | (simp; done) | (simp [*]; done)), (by first | rfl | (simp; done) | (simp [*]; done)), H', ⟨Nat.le_refl _⟩, ⟨by (with_reducible repeat (first | apply Kd.R_alloc | apply Kd.R_drewN | apply Kd.R_drew)); exact Kd.R_mono HO262.out (fun _ hk => ⟨hk.1.2, hk.2⟩)⟩, ⟨by (with_reducible repeat (first | apply Kd.R_alloc | apply Kd.R_drewN | apply Kd.R_drew)); exact Kd.R_mono HO267.out (fun _ hk => ⟨hk.1.2, hk.2⟩)⟩, ⟨by (with_reducible repeat (first | apply Kd.R_alloc | apply Kd.R_drewN | apply Kd.R_drew)); exact Kd.R_mono HO270.out (fun _ hk => ⟨hk.1.2, hk.2⟩)⟩, ⟨by repeat (first | (with_reducible first | exact HB.out | apply below_alloc | apply pw_below_drewN | apply below_drew1) | exact HB.out)⟩⟩
  case round =>
    clear H'
    try clear c1
    try clear p2
    try clear c6
    obtain ⟨x11_1, x12_1, x13_1, x14_1, rfl, rfl, HA, HK1, HO_8, HO_11, HO_12, HB⟩ := hrel
    cases gk with
    | zero => exact absurd HA.out (by simp [wageofficelaw41_ReclaimTooMuch.l0])
    | succ k1 =>
      have H := HA.out
      clear HA
      simp only [wageofficelaw41_ReclaimTooMuch.l0] at H
      by_cases c14 : x14_1 < (t260.length : Int)
      · rw [if_pos c14] at H
        have c14b0 : decide (x14_1 < (t260.length : Int)) = true := decide_eq_true c14
        clear c14
        by_cases c15 : 0 ≤ x14_1
        · rw [if_pos c15] at H
          have c15b0 : decide (0 ≤ x14_1) = true := decide_eq_true c15
          clear c15
          by_cases c16 : x11_1.length < 17592186044416
          · rw [if_pos c16] at H
            have LMc16 := Aside0.mk c16
            clear c16
            obtain ⟨y272, hy272⟩ : ∃ y_ : List Int, y_ = (x11_1 ++ [wrap64 (x13_1 + (rd t260 x14_1))]) := ⟨_, rfl⟩
            replace H : (if x12_1.length < 17592186044416 then (wageofficelaw41_ReclaimTooMuch.l0 k1 t259 t260 t263 t264 y272 (x12_1 ++ [rd t260 x14_1]) (wrap64 (x13_1 + (rd t260 x14_1))) (wrap64 (x14_1 + 1))) else (none)) = some r := by first | (rw [hy272]; with_reducible exact H) | (have H2_ := (Option.bind_some _ _).symm.trans H; rw [hy272]; with_reducible exact H2_) | (have H2_ := (Option.bind_some _ _).symm.trans H; with_reducible exact H2_) | with_reducible exact H | (rw [hy272]; exact H) | exact H
            have Ny272 := Aside0.mk hy272
            clear hy272
            by_cases c17 : x12_1.length < 17592186044416
            · rw [if_pos c17] at H
              have LMc17 := Aside0.mk c17
              clear c17
              obtain ⟨y276, hy276⟩ : ∃ y_ : List Int, y_ = (x12_1 ++ [rd t260 x14_1]) := ⟨_, rfl⟩
              replace H : (wageofficelaw41_ReclaimTooMuch.l0 k1 t259 t260 t263 t264 y272 y276 (wrap64 (x13_1 + (rd t260 x14_1))) (wrap64 (x14_1 + 1))) = some r := by first | (rw [hy276]; with_reducible exact H) | (have H2_ := (Option.bind_some _ _).symm.trans H; rw [hy276]; with_reducible exact H2_) | (have H2_ := (Option.bind_some _ _).symm.trans H; with_reducible exact H2_) | with_reducible exact H | (rw [hy276]; exact H) | exact H
              have Ny276 := Aside0.mk hy276
              clear hy276
              have H' := Aside0.mk H
              clear H
              obtain ⟨Ao18, co18, eo18⟩ := Kd.R_slice HO_8.out
              subst eo18
              have p271 : 0 ≤ (x14_1 : Int) := of_decide_eq_true (by first | (with_reducible assumption) | assumption)
              have q271 : x14_1 < (t260.length : Int) := of_decide_eq_true (by first | (with_reducible assumption) | assumption)
              obtain ⟨ad271, e271, hx271_0⟩ := Kd.at_int (Kd.R_reads' HO_8.out).2.2 x14_1 p271 q271
              cases e271
              replace p271 := eq_true p271
              replace q271 := eq_true q271
              go_wp2_with (first | ((with_reducible refine gate_builtin (b := .append) (xs := #[.tmp 45, .tmp 47]) rfl ?_); (try (refine gate_guard (by rfl) ?_; dsimp only)); at_builtin; refine Kd.R_append (Kd.int .i64) (w0 := w) w.heap.size rfl (.tmp 45) (.tmp 47) 22 3 (.int .i64 0) 8 rfl Try.underlying22 info3 rfl (by decide) (by omega) u11 x11_1 (wrap64 (x13_1 + (rd t260 x14_1))) [.int .i64 (wrap64 (x13_1 + (rd t260 x14_1)))] (fun k_ => some k_ ≠ (.slice (some ad271) t260.length co18 : Value).ownBlock ∧ some k_ ≠ (u12 : Value).ownBlock) (fun _ => False) rfl rfl ?aP (fun _ hk => hk.elim) ?aF ?aO ?aB ?aS ?aL ?_; (case aP => exact rfl); (case aB => exact (by repeat (first | (with_reducible first | exact HB.out | apply below_alloc | apply pw_below_drewN | apply below_drew1) | exact HB.out))); (case aF => exact (fun k_ hk => ⟨Kd.fresh' (Kd.R_lt (by (with_reducible repeat (first | apply Kd.R_alloc | apply Kd.R_drewN | apply Kd.R_drew)); exact HO_8.out)) k_ hk, Kd.fresh' (Kd.R_lt (by (with_reducible repeat (first | apply Kd.R_alloc | apply Kd.R_drewN | apply Kd.R_drew)); exact HO_12.out)) k_ hk⟩)); (case aO => exact (by (with_reducible repeat (first | apply Kd.R_alloc | apply Kd.R_drewN | apply Kd.R_drew)); exact HO_11.out)); (case aS => exact (below_size (by repeat (first | (with_reducible first | exact HB.out | apply below_alloc | apply pw_below_drewN | apply below_drew1) | exact HB.out)))); (case aL => have := LMc16.out; omega); intro v273 w19 ho hb hg hat; rw [← Ny272.out] at ho; have n0_ := Aside0.mk (Kd.R_after (ok := (fun k_ => some k_ ≠ (u12 : Value).ownBlock)) (by (with_reducible repeat (first | apply Kd.R_alloc | apply Kd.R_drewN | apply Kd.R_drew)); exact Kd.R_mono HO_8.out (fun _ hk => ⟨hk.2, hk.1⟩)) hg hat); have n1_ := Aside0.mk (Kd.R_after (ok := (fun k_ => some k_ ≠ (.slice (some ad271) t260.length co18 : Value).ownBlock)) (by (with_reducible repeat (first | apply Kd.R_alloc | apply Kd.R_drewN | apply Kd.R_drew)); exact HO_12.out) hg hat); have n2_ := Aside0.mk (hb); have n3_ := Aside0.mk (ho); clear HO_8; clear HO_12; clear HB; clear HO_11; have HO_8 := n0_; have HO_12 := n1_; have HB := n2_; have HO274 := n3_; clear n0_ n1_ n2_ n3_; clear ho hb hg hat; have p275 : 0 ≤ (x14_1 : Int) := of_decide_eq_true (by first | (with_reducible assumption) | assumption); have q275 : x14_1 < (t260.length : Int) := of_decide_eq_true (by first | (with_reducible assumption) | assumption); obtain ⟨ad275, e275, hx275_0⟩ := Kd.at_int (Kd.R_reads' HO_8.out).2.2 x14_1 p275 q275; obtain rfl : ad271 = ad275 := (by injection e275); replace p275 := eq_true p275; replace q275 := eq_true q275) | ((with_reducible refine gate_builtin (b := .append) (xs := #[.tmp 49, .tmp 54]) rfl ?_); (try (refine gate_guard (by rfl) ?_; dsimp only)); at_builtin; refine Kd.R_append (Kd.int .i64) (w0 := w) w.heap.size rfl (.tmp 49) (.tmp 54) 22 3 (.int .i64 0) 8 rfl Try.underlying22 info3 rfl (by decide) (by omega) u12 x12_1 (rd t260 x14_1) [.int .i64 (rd t260 x14_1)] (fun k_ => some k_ ≠ (.slice (some ad271) t260.length co18 : Value).ownBlock ∧ some k_ ≠ (v273 : Value).ownBlock) (fun _ => False) rfl rfl ?aP (fun _ hk => hk.elim) ?aF ?aO ?aB ?aS ?aL ?_; (case aP => exact rfl); (case aB => exact (by repeat (first | (with_reducible first | exact HB.out | apply below_alloc | apply pw_below_drewN | apply below_drew1) | exact HB.out))); (case aF => exact (fun k_ hk => ⟨Kd.fresh' (Kd.R_lt (by (with_reducible repeat (first | apply Kd.R_alloc | apply Kd.R_drewN | apply Kd.R_drew)); exact HO_8.out)) k_ hk, Kd.fresh' (Kd.R_lt (by (with_reducible repeat (first | apply Kd.R_alloc | apply Kd.R_drewN | apply Kd.R_drew)); exact HO274.out)) k_ hk⟩)); (case aO => exact (by (with_reducible repeat (first | apply Kd.R_alloc | apply Kd.R_drewN | apply Kd.R_drew)); exact HO_12.out)); (case aS => exact (below_size (by repeat (first | (with_reducible first | exact HB.out | apply below_alloc | apply pw_below_drewN | apply below_drew1) | exact HB.out)))); (case aL => have := LMc17.out; omega); intro v277 w20 ho hb hg hat; rw [← Ny276.out] at ho; have n0_ := Aside0.mk (Kd.R_after (ok := (fun k_ => some k_ ≠ (v273 : Value).ownBlock)) (by (with_reducible repeat (first | apply Kd.R_alloc | apply Kd.R_drewN | apply Kd.R_drew)); exact Kd.R_mono HO_8.out (fun _ hk => ⟨hk.2, hk.1⟩)) hg hat); have n1_ := Aside0.mk (Kd.R_after (ok := (fun k_ => some k_ ≠ (.slice (some ad271) t260.length co18 : Value).ownBlock)) (by (with_reducible repeat (first | apply Kd.R_alloc | apply Kd.R_drewN | apply Kd.R_drew)); exact HO274.out) hg hat); have n2_ := Aside0.mk (hb); have n3_ := Aside0.mk (ho); clear HO_8; clear HO274; clear HB; clear HO_12; have HO_8 := n0_; have HO274 := n1_; have HB := n2_; have HO278 := n3_; clear n0_ n1_ n2_ n3_; clear ho hb hg hat))
              repeat (go_quiet (first | ((with_reducible refine gate_builtin (b := .append) (xs := #[.tmp 45, .tmp 47]) rfl ?_); (try (refine gate_guard (by rfl) ?_; dsimp only)); at_builtin; refine Kd.R_append (Kd.int .i64) (w0 := w) w.heap.size rfl (.tmp 45) (.tmp 47) 22 3 (.int .i64 0) 8 rfl Try.underlying22 info3 rfl (by decide) (by omega) u11 x11_1 (wrap64 (x13_1 + (rd t260 x14_1))) [.int .i64 (wrap64 (x13_1 + (rd t260 x14_1)))] (fun k_ => some k_ ≠ (.slice (some ad271) t260.length co18 : Value).ownBlock ∧ some k_ ≠ (u12 : Value).ownBlock) (fun _ => False) rfl rfl ?aP (fun _ hk => hk.elim) ?aF ?aO ?aB ?aS ?aL ?_; (case aP => exact rfl); (case aB => exact (by repeat (first | (with_reducible first | exact HB.out | apply below_alloc | apply pw_below_drewN | apply below_drew1) | exact HB.out))); (case aF => exact (fun k_ hk => ⟨Kd.fresh' (Kd.R_lt (by (with_reducible repeat (first | apply Kd.R_alloc | apply Kd.R_drewN | apply Kd.R_drew)); exact HO_8.out)) k_ hk, Kd.fresh' (Kd.R_lt (by (with_reducible repeat (first | apply Kd.R_alloc | apply Kd.R_drewN | apply Kd.R_drew)); exact HO_12.out)) k_ hk⟩)); (case aO => exact (by (with_reducible repeat (first | apply Kd.R_alloc | apply Kd.R_drewN | apply Kd.R_drew)); exact HO_11.out)); (case aS => exact (below_size (by repeat (first | (with_reducible first | exact HB.out | apply below_alloc | apply pw_below_drewN | apply below_drew1) | exact HB.out)))); (case aL => have := LMc16.out; omega); intro v273 w19 ho hb hg hat; rw [← Ny272.out] at ho; have n0_ := Aside0.mk (Kd.R_after (ok := (fun k_ => some k_ ≠ (u12 : Value).ownBlock)) (by (with_reducible repeat (first | apply Kd.R_alloc | apply Kd.R_drewN | apply Kd.R_drew)); exact Kd.R_mono HO_8.out (fun _ hk => ⟨hk.2, hk.1⟩)) hg hat); have n1_ := Aside0.mk (Kd.R_after (ok := (fun k_ => some k_ ≠ (.slice (some ad271) t260.length co18 : Value).ownBlock)) (by (with_reducible repeat (first | apply Kd.R_alloc | apply Kd.R_drewN | apply Kd.R_drew)); exact HO_12.out) hg hat); have n2_ := Aside0.mk (hb); have n3_ := Aside0.mk (ho); clear HO_8; clear HO_12; clear HB; clear HO_11; have HO_8 := n0_; have HO_12 := n1_; have HB := n2_; have HO274 := n3_; clear n0_ n1_ n2_ n3_; clear ho hb hg hat; have p275 : 0 ≤ (x14_1 : Int) := of_decide_eq_true (by first | (with_reducible assumption) | assumption); have q275 : x14_1 < (t260.length : Int) := of_decide_eq_true (by first | (with_reducible assumption) | assumption); obtain ⟨ad275, e275, hx275_0⟩ := Kd.at_int (Kd.R_reads' HO_8.out).2.2 x14_1 p275 q275; obtain rfl : ad271 = ad275 := (by injection e275); replace p275 := eq_true p275; replace q275 := eq_true q275) | ((with_reducible refine gate_builtin (b := .append) (xs := #[.tmp 49, .tmp 54]) rfl ?_); (try (refine gate_guard (by rfl) ?_; dsimp only)); at_builtin; refine Kd.R_append (Kd.int .i64) (w0 := w) w.heap.size rfl (.tmp 49) (.tmp 54) 22 3 (.int .i64 0) 8 rfl Try.underlying22 info3 rfl (by decide) (by omega) u12 x12_1 (rd t260 x14_1) [.int .i64 (rd t260 x14_1)] (fun k_ => some k_ ≠ (.slice (some ad271) t260.length co18 : Value).ownBlock ∧ some k_ ≠ (v273 : Value).ownBlock) (fun _ => False) rfl rfl ?aP (fun _ hk => hk.elim) ?aF ?aO ?aB ?aS ?aL ?_; (case aP => exact rfl); (case aB => exact (by repeat (first | (with_reducible first | exact HB.out | apply below_alloc | apply pw_below_drewN | apply below_drew1) | exact HB.out))); (case aF => exact (fun k_ hk => ⟨Kd.fresh' (Kd.R_lt (by (with_reducible repeat (first | apply Kd.R_alloc | apply Kd.R_drewN | apply Kd.R_drew)); exact HO_8.out)) k_ hk, Kd.fresh' (Kd.R_lt (by (with_reducible repeat (first | apply Kd.R_alloc | apply Kd.R_drewN | apply Kd.R_drew)); exact HO274.out)) k_ hk⟩)); (case aO => exact (by (with_reducible repeat (first | apply Kd.R_alloc | apply Kd.R_drewN | apply Kd.R_drew)); exact HO_12.out)); (case aS => exact (below_size (by repeat (first | (with_reducible first | exact HB.out | apply below_alloc | apply pw_below_drewN | apply below_drew1) | exact HB.out)))); (case aL => have := LMc17.out; omega); intro v277 w20 ho hb hg hat; rw [← Ny276.out] at ho; have n0_ := Aside0.mk (Kd.R_after (ok := (fun k_ => some k_ ≠ (v273 : Value).ownBlock)) (by (with_reducible repeat (first | apply Kd.R_alloc | apply Kd.R_drewN | apply Kd.R_drew)); exact Kd.R_mono HO_8.out (fun _ hk => ⟨hk.2, hk.1⟩)) hg hat); have n1_ := Aside0.mk (Kd.R_after (ok := (fun k_ => some k_ ≠ (.slice (some ad271) t260.length co18 : Value).ownBlock)) (by (with_reducible repeat (first | apply Kd.R_alloc | apply Kd.R_drewN | apply Kd.R_drew)); exact HO274.out) hg hat); have n2_ := Aside0.mk (hb); have n3_ := Aside0.mk (ho); clear HO_8; clear HO274; clear HB; clear HO_12; have HO_8 := n0_; have HO274 := n1_; have HB := n2_; have HO278 := n3_; clear n0_ n1_ n2_ n3_; clear ho hb hg hat)); try go_wp2_with (first | ((with_reducible refine gate_builtin (b := .append) (xs := #[.tmp 45, .tmp 47]) rfl ?_); (try (refine gate_guard (by rfl) ?_; dsimp only)); at_builtin; refine Kd.R_append (Kd.int .i64) (w0 := w) w.heap.size rfl (.tmp 45) (.tmp 47) 22 3 (.int .i64 0) 8 rfl Try.underlying22 info3 rfl (by decide) (by omega) u11 x11_1 (wrap64 (x13_1 + (rd t260 x14_1))) [.int .i64 (wrap64 (x13_1 + (rd t260 x14_1)))] (fun k_ => some k_ ≠ (.slice (some ad271) t260.length co18 : Value).ownBlock ∧ some k_ ≠ (u12 : Value).ownBlock) (fun _ => False) rfl rfl ?aP (fun _ hk => hk.elim) ?aF ?aO ?aB ?aS ?aL ?_; (case aP => exact rfl); (case aB => exact (by repeat (first | (with_reducible first | exact HB.out | apply below_alloc | apply pw_below_drewN | apply below_drew1) | exact HB.out))); (case aF => exact (fun k_ hk => ⟨Kd.fresh' (Kd.R_lt (by (with_reducible repeat (first | apply Kd.R_alloc | apply Kd.R_drewN | apply Kd.R_drew)); exact HO_8.out)) k_ hk, Kd.fresh' (Kd.R_lt (by (with_reducible repeat (first | apply Kd.R_alloc | apply Kd.R_drewN | apply Kd.R_drew)); exact HO_12.out)) k_ hk⟩)); (case aO => exact (by (with_reducible repeat (first | apply Kd.R_alloc | apply Kd.R_drewN | apply Kd.R_drew)); exact HO_11.out)); (case aS => exact (below_size (by repeat (first | (with_reducible first | exact HB.out | apply below_alloc | apply pw_below_drewN | apply below_drew1) | exact HB.out)))); (case aL => have := LMc16.out; omega); intro v273 w19 ho hb hg hat; rw [← Ny272.out] at ho; have n0_ := Aside0.mk (Kd.R_after (ok := (fun k_ => some k_ ≠ (u12 : Value).ownBlock)) (by (with_reducible repeat (first | apply Kd.R_alloc | apply Kd.R_drewN | apply Kd.R_drew)); exact Kd.R_mono HO_8.out (fun _ hk => ⟨hk.2, hk.1⟩)) hg hat); have n1_ := Aside0.mk (Kd.R_after (ok := (fun k_ => some k_ ≠ (.slice (some ad271) t260.length co18 : Value).ownBlock)) (by (with_reducible repeat (first | apply Kd.R_alloc | apply Kd.R_drewN | apply Kd.R_drew)); exact HO_12.out) hg hat); have n2_ := Aside0.mk (hb); have n3_ := Aside0.mk (ho); clear HO_8; clear HO_12; clear HB; clear HO_11; have HO_8 := n0_; have HO_12 := n1_; have HB := n2_; have HO274 := n3_; clear n0_ n1_ n2_ n3_; clear ho hb hg hat; have p275 : 0 ≤ (x14_1 : Int) := of_decide_eq_true (by first | (with_reducible assumption) | assumption); have q275 : x14_1 < (t260.length : Int) := of_decide_eq_true (by first | (with_reducible assumption) | assumption); obtain ⟨ad275, e275, hx275_0⟩ := Kd.at_int (Kd.R_reads' HO_8.out).2.2 x14_1 p275 q275; obtain rfl : ad271 = ad275 := (by injection e275); replace p275 := eq_true p275; replace q275 := eq_true q275) | ((with_reducible refine gate_builtin (b := .append) (xs := #[.tmp 49, .tmp 54]) rfl ?_); (try (refine gate_guard (by rfl) ?_; dsimp only)); at_builtin; refine Kd.R_append (Kd.int .i64) (w0 := w) w.heap.size rfl (.tmp 49) (.tmp 54) 22 3 (.int .i64 0) 8 rfl Try.underlying22 info3 rfl (by decide) (by omega) u12 x12_1 (rd t260 x14_1) [.int .i64 (rd t260 x14_1)] (fun k_ => some k_ ≠ (.slice (some ad271) t260.length co18 : Value).ownBlock ∧ some k_ ≠ (v273 : Value).ownBlock) (fun _ => False) rfl rfl ?aP (fun _ hk => hk.elim) ?aF ?aO ?aB ?aS ?aL ?_; (case aP => exact rfl); (case aB => exact (by repeat (first | (with_reducible first | exact HB.out | apply below_alloc | apply pw_below_drewN | apply below_drew1) | exact HB.out))); (case aF => exact (fun k_ hk => ⟨Kd.fresh' (Kd.R_lt (by (with_reducible repeat (first | apply Kd.R_alloc | apply Kd.R_drewN | apply Kd.R_drew)); exact HO_8.out)) k_ hk, Kd.fresh' (Kd.R_lt (by (with_reducible repeat (first | apply Kd.R_alloc | apply Kd.R_drewN | apply Kd.R_drew)); exact HO274.out)) k_ hk⟩)); (case aO => exact (by (with_reducible repeat (first | apply Kd.R_alloc | apply Kd.R_drewN | apply Kd.R_drew)); exact HO_12.out)); (case aS => exact (below_size (by repeat (first | (with_reducible first | exact HB.out | apply below_alloc | apply pw_below_drewN | apply below_drew1) | exact HB.out)))); (case aL => have := LMc17.out; omega); intro v277 w20 ho hb hg hat; rw [← Ny276.out] at ho; have n0_ := Aside0.mk (Kd.R_after (ok := (fun k_ => some k_ ≠ (v273 : Value).ownBlock)) (by (with_reducible repeat (first | apply Kd.R_alloc | apply Kd.R_drewN | apply Kd.R_drew)); exact Kd.R_mono HO_8.out (fun _ hk => ⟨hk.2, hk.1⟩)) hg hat); have n1_ := Aside0.mk (Kd.R_after (ok := (fun k_ => some k_ ≠ (.slice (some ad271) t260.length co18 : Value).ownBlock)) (by (with_reducible repeat (first | apply Kd.R_alloc | apply Kd.R_drewN | apply Kd.R_drew)); exact HO274.out) hg hat); have n2_ := Aside0.mk (hb); have n3_ := Aside0.mk (ho); clear HO_8; clear HO274; clear HB; clear HO_12; have HO_8 := n0_; have HO274 := n1_; have HB := n2_; have HO278 := n3_; clear n0_ n1_ n2_ n3_; clear ho hb hg hat)))
              go_roundg k1
              case measure => have := HK1.out; omega
              case rel => exact ⟨(y272), (y276), (wrap64 (x13_1 + (rd t260 x14_1))), (wrap64 (x14_1 + 1)), (by first | rfl | (simp; done) | (simp [*]; done)), (by first | rfl | (simp; done) | (simp [*]; done)), H', ⟨by have := HK1.out; omega⟩, ⟨by (with_reducible repeat (first | apply Kd.R_alloc | apply Kd.R_drewN | apply Kd.R_drew)); exact HO_8.out⟩, ⟨by (with_reducible repeat (first | apply Kd.R_alloc | apply Kd.R_drewN | apply Kd.R_drew)); exact HO274.out⟩, ⟨by (with_reducible repeat (first | apply Kd.R_alloc | apply Kd.R_drewN | apply Kd.R_drew)); exact HO278.out⟩, ⟨by repeat (first | (with_reducible first | exact HB.out | apply below_alloc | apply pw_below_drewN | apply below_drew1) | exact HB.out)⟩⟩
            · rw [if_neg c17] at H
              exact absurd H (by simp)
          · rw [if_neg c16] at H
            exact absurd H (by simp)
        · rw [if_neg c15] at H
          exact absurd H (by simp)
      · rw [if_neg c14] at H
        have c14b0 : decide (x14_1 < (t260.length : Int)) = false := decide_eq_false c14
        clear c14
        replace H := Option.bind_eq_some_iff.mp H
        obtain ⟨⟨t279, t280⟩, A210, H⟩ := H
        replace H : (if t280 = 0 then (if (t279.length : Int) = (x11_1.length : Int) then (if 0 < (t279.length : Int) then (if (rd t279 0) = t263 then (if 1 < (t279.length : Int) then (wageofficelaw41_ReclaimTooMuch.j1 k1 t259 t260 t263 t264 x11_1 t279 ((rd t279 1) != t263)) else (none)) else (wageofficelaw41_ReclaimTooMuch.j1 k1 t259 t260 t263 t264 x11_1 t279 true)) else (none)) else (wageofficelaw41_ReclaimTooMuch.j1 k1 t259 t260 t263 t264 x11_1 t279 true)) else (wageofficelaw41_ReclaimTooMuch.j1 k1 t259 t260 t263 t264 x11_1 t279 true)) = some r := H
        have A21 := Aside0.mk A210
        clear A210
        have HC22 := Aside0.mk H
        clear H
        obtain ⟨Ao23, co23, eo23⟩ := Kd.R_slice HO_8.out
        subst eo23
        obtain ⟨Ao24, co24, eo24⟩ := Kd.R_slice HO_11.out
        subst eo24
        obtain ⟨Ao25, co25, eo25⟩ := Kd.R_slice HO_12.out
        subst eo25
        go_upto_region 15 with (first | (go_at_call 10; (with_reducible refine (reclaim_Fold.calls k1 _ _ x11_1 _ _ x12_1 t279 t280 _ ?side1 ?side2 ?side3 ?side4 A21.out).mono ?_); (case side1 => repeat (first | exact (Kd.R_reads' HO_11.out).2.2 | (with_reducible refine Kd.C_alloc ?_ _) | (with_reducible refine Kd.C_drewN ?_ _) | (with_reducible refine Kd.C_drew ?_))); (case side2 => exact (Kd.R_reads' HO_11.out).2.1); (case side3 => repeat (first | exact (Kd.R_reads' HO_12.out).2.2 | (with_reducible refine Kd.C_alloc ?_ _) | (with_reducible refine Kd.C_drewN ?_ _) | (with_reducible refine Kd.C_drew ?_))); (case side4 => exact (Kd.R_reads' HO_12.out).2.1); rintro e w26 ⟨v281, rfl, ho0, hb⟩; have n0_ := Aside0.mk (Kd.R_elder' (by (with_reducible repeat (first | apply Kd.R_alloc | apply Kd.R_drewN | apply Kd.R_drew)); exact HO_8.out) (Kd.R_base ho0) hb); have n1_ := Aside0.mk (Kd.R_elder' (by (with_reducible repeat (first | apply Kd.R_alloc | apply Kd.R_drewN | apply Kd.R_drew)); exact HO_11.out) (Kd.R_base ho0) hb); have n2_ := Aside0.mk (Kd.R_elder' (by (with_reducible repeat (first | apply Kd.R_alloc | apply Kd.R_drewN | apply Kd.R_drew)); exact HO_12.out) (Kd.R_base ho0) hb); have n3_ := Aside0.mk (Kd.R_lower (Kd.R_new' (Kd.R_new' (Kd.R_new' ho0 (Kd.R_lt (by (with_reducible repeat (first | apply Kd.R_alloc | apply Kd.R_drewN | apply Kd.R_drew)); exact HO_8.out))) (Kd.R_lt (by (with_reducible repeat (first | apply Kd.R_alloc | apply Kd.R_drewN | apply Kd.R_drew)); exact HO_11.out))) (Kd.R_lt (by (with_reducible repeat (first | apply Kd.R_alloc | apply Kd.R_drewN | apply Kd.R_drew)); exact HO_12.out))) (below_size (by repeat (first | (with_reducible first | exact HB.out | apply below_alloc | apply pw_below_drewN | apply below_drew1) | exact HB.out)))); have n4_ := Aside0.mk (below_step (by repeat (first | (with_reducible first | exact HB.out | apply below_alloc | apply pw_below_drewN | apply below_drew1) | exact HB.out)) hb); clear HO_8; clear HO_11; clear HO_12; clear HB; have HO_8 := n0_; have HO_11 := n1_; have HO_12 := n2_; have HO282 := n3_; have HB := n4_; clear n0_ n1_ n2_ n3_ n4_; (try clear hb); (try clear hb2); (try clear hk); (try clear hi); (try clear ho0)))
        repeat (go_quiet (first | (go_at_call 10; (with_reducible refine (reclaim_Fold.calls k1 _ _ x11_1 _ _ x12_1 t279 t280 _ ?side1 ?side2 ?side3 ?side4 A21.out).mono ?_); (case side1 => repeat (first | exact (Kd.R_reads' HO_11.out).2.2 | (with_reducible refine Kd.C_alloc ?_ _) | (with_reducible refine Kd.C_drewN ?_ _) | (with_reducible refine Kd.C_drew ?_))); (case side2 => exact (Kd.R_reads' HO_11.out).2.1); (case side3 => repeat (first | exact (Kd.R_reads' HO_12.out).2.2 | (with_reducible refine Kd.C_alloc ?_ _) | (with_reducible refine Kd.C_drewN ?_ _) | (with_reducible refine Kd.C_drew ?_))); (case side4 => exact (Kd.R_reads' HO_12.out).2.1); rintro e w26 ⟨v281, rfl, ho0, hb⟩; have n0_ := Aside0.mk (Kd.R_elder' (by (with_reducible repeat (first | apply Kd.R_alloc | apply Kd.R_drewN | apply Kd.R_drew)); exact HO_8.out) (Kd.R_base ho0) hb); have n1_ := Aside0.mk (Kd.R_elder' (by (with_reducible repeat (first | apply Kd.R_alloc | apply Kd.R_drewN | apply Kd.R_drew)); exact HO_11.out) (Kd.R_base ho0) hb); have n2_ := Aside0.mk (Kd.R_elder' (by (with_reducible repeat (first | apply Kd.R_alloc | apply Kd.R_drewN | apply Kd.R_drew)); exact HO_12.out) (Kd.R_base ho0) hb); have n3_ := Aside0.mk (Kd.R_lower (Kd.R_new' (Kd.R_new' (Kd.R_new' ho0 (Kd.R_lt (by (with_reducible repeat (first | apply Kd.R_alloc | apply Kd.R_drewN | apply Kd.R_drew)); exact HO_8.out))) (Kd.R_lt (by (with_reducible repeat (first | apply Kd.R_alloc | apply Kd.R_drewN | apply Kd.R_drew)); exact HO_11.out))) (Kd.R_lt (by (with_reducible repeat (first | apply Kd.R_alloc | apply Kd.R_drewN | apply Kd.R_drew)); exact HO_12.out))) (below_size (by repeat (first | (with_reducible first | exact HB.out | apply below_alloc | apply pw_below_drewN | apply below_drew1) | exact HB.out)))); have n4_ := Aside0.mk (below_step (by repeat (first | (with_reducible first | exact HB.out | apply below_alloc | apply pw_below_drewN | apply below_drew1) | exact HB.out)) hb); clear HO_8; clear HO_11; clear HO_12; clear HB; have HO_8 := n0_; have HO_11 := n1_; have HO_12 := n2_; have HO282 := n3_; have HB := n4_; clear n0_ n1_ n2_ n3_ n4_; (try clear hb); (try clear hb2); (try clear hk); (try clear hi); (try clear ho0))); go_upto_region 15 with (first | (go_at_call 10; (with_reducible refine (reclaim_Fold.calls k1 _ _ x11_1 _ _ x12_1 t279 t280 _ ?side1 ?side2 ?side3 ?side4 A21.out).mono ?_); (case side1 => repeat (first | exact (Kd.R_reads' HO_11.out).2.2 | (with_reducible refine Kd.C_alloc ?_ _) | (with_reducible refine Kd.C_drewN ?_ _) | (with_reducible refine Kd.C_drew ?_))); (case side2 => exact (Kd.R_reads' HO_11.out).2.1); (case side3 => repeat (first | exact (Kd.R_reads' HO_12.out).2.2 | (with_reducible refine Kd.C_alloc ?_ _) | (with_reducible refine Kd.C_drewN ?_ _) | (with_reducible refine Kd.C_drew ?_))); (case side4 => exact (Kd.R_reads' HO_12.out).2.1); rintro e w26 ⟨v281, rfl, ho0, hb⟩; have n0_ := Aside0.mk (Kd.R_elder' (by (with_reducible repeat (first | apply Kd.R_alloc | apply Kd.R_drewN | apply Kd.R_drew)); exact HO_8.out) (Kd.R_base ho0) hb); have n1_ := Aside0.mk (Kd.R_elder' (by (with_reducible repeat (first | apply Kd.R_alloc | apply Kd.R_drewN | apply Kd.R_drew)); exact HO_11.out) (Kd.R_base ho0) hb); have n2_ := Aside0.mk (Kd.R_elder' (by (with_reducible repeat (first | apply Kd.R_alloc | apply Kd.R_drewN | apply Kd.R_drew)); exact HO_12.out) (Kd.R_base ho0) hb); have n3_ := Aside0.mk (Kd.R_lower (Kd.R_new' (Kd.R_new' (Kd.R_new' ho0 (Kd.R_lt (by (with_reducible repeat (first | apply Kd.R_alloc | apply Kd.R_drewN | apply Kd.R_drew)); exact HO_8.out))) (Kd.R_lt (by (with_reducible repeat (first | apply Kd.R_alloc | apply Kd.R_drewN | apply Kd.R_drew)); exact HO_11.out))) (Kd.R_lt (by (with_reducible repeat (first | apply Kd.R_alloc | apply Kd.R_drewN | apply Kd.R_drew)); exact HO_12.out))) (below_size (by repeat (first | (with_reducible first | exact HB.out | apply below_alloc | apply pw_below_drewN | apply below_drew1) | exact HB.out)))); have n4_ := Aside0.mk (below_step (by repeat (first | (with_reducible first | exact HB.out | apply below_alloc | apply pw_below_drewN | apply below_drew1) | exact HB.out)) hb); clear HO_8; clear HO_11; clear HO_12; clear HB; have HO_8 := n0_; have HO_11 := n1_; have HO_12 := n2_; have HO282 := n3_; have HB := n4_; clear n0_ n1_ n2_ n3_ n4_; (try clear hb); (try clear hb2); (try clear hk); (try clear hi); (try clear ho0))))
        (try simp only [Act.put, List.setIfInBounds_toArray, List.set_cons_zero, List.set_cons_succ])
        go_cut [84] (fun v84 wc => ∃ (kq : Nat) (x84_21 : Bool), v84 = .bool x84_21 ∧ Aside0 (wageofficelaw41_ReclaimTooMuch.j1 kq t259 t260 t263 t264 x11_1 t279 x84_21 = some r) ∧ Aside0 (kq ≤ k1) ∧ Aside0 (Kd.R (Kd.int .i64) 3 wc w.heap.size (fun k_ => some k_ ≠ ((.slice Ao24 x11_1.length co24) : Value).ownBlock ∧ some k_ ≠ (v281 : Value).ownBlock) (.slice Ao23 t260.length co23) t260) ∧ Aside0 (Kd.R (Kd.int .i64) 3 wc w.heap.size (fun k_ => some k_ ≠ ((.slice Ao23 t260.length co23) : Value).ownBlock ∧ some k_ ≠ (v281 : Value).ownBlock) (.slice Ao24 x11_1.length co24) x11_1) ∧ Aside0 (Kd.R (Kd.int .i64) 3 wc w.heap.size (fun k_ => some k_ ≠ ((.slice Ao23 t260.length co23) : Value).ownBlock ∧ some k_ ≠ ((.slice Ao24 x11_1.length co24) : Value).ownBlock) v281 t279) ∧ Aside0 (Below w.heap.size w wc))
        case first =>
          have H := HC22.out
          clear HC22
          by_cases c27 : t280 = 0
          · rw [if_pos c27] at H
            have c27b0 : (t280 == 0) = true := beq_iff_eq.mpr c27
            have c27b1 : (t280 != 0) = false := bne_eq_false_iff_eq.mpr c27
            clear c27
            (first | rw [c27b0] | (simp only [i64_w, i32_w]; rw [c27b0]) | skip)
            by_cases c28 : (t279.length : Int) = (x11_1.length : Int)
            · rw [if_pos c28] at H
              have c28b0 : ((t279.length : Int) == (x11_1.length : Int)) = true := beq_iff_eq.mpr c28
              have c28b1 : ((t279.length : Int) != (x11_1.length : Int)) = false := bne_eq_false_iff_eq.mpr c28
              have c28b2 : (t279.length == x11_1.length) = true := by first | simpa using c28 | (simp at c28 ⊢; omega)
              clear c28
              by_cases c29 : 0 < (t279.length : Int)
              · rw [if_pos c29] at H
                have c29b0 : decide (0 < (t279.length : Int)) = true := decide_eq_true c29
                have c29b1 : decide (0 < t279.length) = true := decide_eq_true (by omega)
                clear c29
                by_cases c30 : (rd t279 0) = t263
                · rw [if_pos c30] at H
                  have c30b0 : ((rd t279 0) == t263) = true := beq_iff_eq.mpr c30
                  have c30b1 : ((rd t279 0) != t263) = false := bne_eq_false_iff_eq.mpr c30
                  clear c30
                  by_cases c31 : 1 < (t279.length : Int)
                  · rw [if_pos c31] at H
                    have c31b0 : decide (1 < (t279.length : Int)) = true := decide_eq_true c31
                    have c31b1 : decide (1 < t279.length) = true := decide_eq_true (by omega)
                    clear c31
                    have H' := Aside0.mk H
                    clear H
                    obtain ⟨Ao32, co32, eo32⟩ := Kd.R_slice HO282.out
                    subst eo32
                    have p283 : 0 ≤ (0 : Int) := (by omega)
                    have q283 : 0 < (t279.length : Int) := of_decide_eq_true (by first | (with_reducible assumption) | assumption)
                    obtain ⟨ad283, e283, hx283_0⟩ := Kd.at_int (Kd.R_reads' HO282.out).2.2 0 p283 q283
                    cases e283
                    have qi283 : (0 < t279.length) = True := eq_true (by omega)
                    (try rw [show ((0 : Int)).toNat = 0 from rfl] at hx283_0)
                    (try rw [Addr.add_zero'] at hx283_0)
                    replace p283 := eq_true p283
                    replace q283 := eq_true q283
                    have p284 : 0 ≤ (1 : Int) := (by omega)
                    have q284 : 1 < (t279.length : Int) := of_decide_eq_true (by first | (with_reducible assumption) | assumption)
                    obtain ⟨ad284, e284, hx284_0⟩ := Kd.at_int (Kd.R_reads' HO282.out).2.2 1 p284 q284
                    obtain rfl : ad283 = ad284 := (by injection e284)
                    (try simp only [show (1 : Int).toNat = 1 from rfl, Nat.reduceMul, Nat.reduceEqDiff, Go.Addr.add, ↓reduceIte] at hx284_0)
                    have qi284 : (1 < t279.length) = True := eq_true (by omega)
                    (try rw [show ((1 : Int)).toNat = 1 from rfl] at hx284_0)
                    replace p284 := eq_true p284
                    replace q284 := eq_true q284
                    go_wp2
                    repeat (go_quiet (fail); try go_wp2)
                    go_meet
                    case rel => exact ⟨_, (((rd t279 1) != t263)), (by first | rfl | (simp; done) | (simp [*]; done)), H', ⟨by have := HK1.out; first | omega | exact Nat.le_refl _⟩, ⟨by (with_reducible repeat (first | apply Kd.R_alloc | apply Kd.R_drewN | apply Kd.R_drew)); exact Kd.R_mono HO_8.out (fun _ hk => ⟨hk.1.1, hk.2⟩)⟩, ⟨by (with_reducible repeat (first | apply Kd.R_alloc | apply Kd.R_drewN | apply Kd.R_drew)); exact Kd.R_mono HO_11.out (fun _ hk => ⟨hk.1.1, hk.2⟩)⟩, ⟨by (with_reducible repeat (first | apply Kd.R_alloc | apply Kd.R_drewN | apply Kd.R_drew)); exact Kd.R_mono HO282.out (fun _ hk => ⟨hk.1.1.2, hk.1.2⟩)⟩, ⟨by repeat (first | (with_reducible first | exact HB.out | apply below_alloc | apply pw_below_drewN | apply below_drew1) | exact HB.out)⟩⟩
                  · rw [if_neg c31] at H
                    exact absurd H (by simp)
                · rw [if_neg c30] at H
                  have c30b0 : ((rd t279 0) == t263) = false := beq_eq_false_iff_ne.mpr c30
                  have c30b1 : ((rd t279 0) != t263) = true := bne_iff_ne.mpr c30
                  have H' := Aside0.mk H
                  clear H
                  obtain ⟨Ao33, co33, eo33⟩ := Kd.R_slice HO282.out
                  subst eo33
                  have p283 : 0 ≤ (0 : Int) := (by omega)
                  have q283 : 0 < (t279.length : Int) := of_decide_eq_true (by first | (with_reducible assumption) | assumption)
                  obtain ⟨ad283, e283, hx283_0⟩ := Kd.at_int (Kd.R_reads' HO282.out).2.2 0 p283 q283
                  cases e283
                  have qi283 : (0 < t279.length) = True := eq_true (by omega)
                  (try rw [show ((0 : Int)).toNat = 0 from rfl] at hx283_0)
                  (try rw [Addr.add_zero'] at hx283_0)
                  replace p283 := eq_true p283
                  replace q283 := eq_true q283
                  go_wp2
                  repeat (go_quiet (fail); try go_wp2)
                  go_meet
                  case rel => exact ⟨_, (true), (by first | rfl | (simp; done) | (simp [*]; done)), H', ⟨by have := HK1.out; first | omega | exact Nat.le_refl _⟩, ⟨by (with_reducible repeat (first | apply Kd.R_alloc | apply Kd.R_drewN | apply Kd.R_drew)); exact Kd.R_mono HO_8.out (fun _ hk => ⟨hk.1.1, hk.2⟩)⟩, ⟨by (with_reducible repeat (first | apply Kd.R_alloc | apply Kd.R_drewN | apply Kd.R_drew)); exact Kd.R_mono HO_11.out (fun _ hk => ⟨hk.1.1, hk.2⟩)⟩, ⟨by (with_reducible repeat (first | apply Kd.R_alloc | apply Kd.R_drewN | apply Kd.R_drew)); exact Kd.R_mono HO282.out (fun _ hk => ⟨hk.1.1.2, hk.1.2⟩)⟩, ⟨by repeat (first | (with_reducible first | exact HB.out | apply below_alloc | apply pw_below_drewN | apply below_drew1) | exact HB.out)⟩⟩
              · rw [if_neg c29] at H
                exact absurd H (by simp)
            · rw [if_neg c28] at H
              have c28b0 : ((t279.length : Int) == (x11_1.length : Int)) = false := beq_eq_false_iff_ne.mpr c28
              have c28b1 : ((t279.length : Int) != (x11_1.length : Int)) = true := bne_iff_ne.mpr c28
              have c28b2 : (t279.length == x11_1.length) = false := by first | simpa using c28 | (simp at c28 ⊢; omega)
              have H' := Aside0.mk H
              clear H
              obtain ⟨Ao34, co34, eo34⟩ := Kd.R_slice HO282.out
              subst eo34
              go_wp2
              repeat (go_quiet (fail); try go_wp2)
              go_meet
              case rel => exact ⟨_, (true), (by first | rfl | (simp; done) | (simp [*]; done)), H', ⟨by have := HK1.out; first | omega | exact Nat.le_refl _⟩, ⟨by (with_reducible repeat (first | apply Kd.R_alloc | apply Kd.R_drewN | apply Kd.R_drew)); exact Kd.R_mono HO_8.out (fun _ hk => ⟨hk.1.1, hk.2⟩)⟩, ⟨by (with_reducible repeat (first | apply Kd.R_alloc | apply Kd.R_drewN | apply Kd.R_drew)); exact Kd.R_mono HO_11.out (fun _ hk => ⟨hk.1.1, hk.2⟩)⟩, ⟨by (with_reducible repeat (first | apply Kd.R_alloc | apply Kd.R_drewN | apply Kd.R_drew)); exact Kd.R_mono HO282.out (fun _ hk => ⟨hk.1.1.2, hk.1.2⟩)⟩, ⟨by repeat (first | (with_reducible first | exact HB.out | apply below_alloc | apply pw_below_drewN | apply below_drew1) | exact HB.out)⟩⟩
          · rw [if_neg c27] at H
            have c27b0 : (t280 == 0) = false := beq_eq_false_iff_ne.mpr c27
            have c27b1 : (t280 != 0) = true := bne_iff_ne.mpr c27
            (first | rw [c27b0] | (simp only [i64_w, i32_w]; rw [c27b0]) | skip)
            have H' := Aside0.mk H
            clear H
            go_wp2
            repeat (go_quiet (fail); try go_wp2)
            go_meet
            case rel => exact ⟨_, (true), (by first | rfl | (simp; done) | (simp [*]; done)), H', ⟨by have := HK1.out; first | omega | exact Nat.le_refl _⟩, ⟨by (with_reducible repeat (first | apply Kd.R_alloc | apply Kd.R_drewN | apply Kd.R_drew)); exact Kd.R_mono HO_8.out (fun _ hk => ⟨hk.1.1, hk.2⟩)⟩, ⟨by (with_reducible repeat (first | apply Kd.R_alloc | apply Kd.R_drewN | apply Kd.R_drew)); exact Kd.R_mono HO_11.out (fun _ hk => ⟨hk.1.1, hk.2⟩)⟩, ⟨by (with_reducible repeat (first | apply Kd.R_alloc | apply Kd.R_drewN | apply Kd.R_drew)); exact Kd.R_mono HO282.out (fun _ hk => ⟨hk.1.1.2, hk.1.2⟩)⟩, ⟨by repeat (first | (with_reducible first | exact HB.out | apply below_alloc | apply pw_below_drewN | apply below_drew1) | exact HB.out)⟩⟩
        case rest =>
          clear HC22
          try clear c1
          try clear c2
          try clear p2
          try clear q2
          try clear hx2
          try clear qi2
          try clear c3
          try clear c6
          try clear p6
          try clear c14
          try clear c14b0
          try clear c15
          try clear c15b0
          try clear c16
          try clear c17
          try clear c27
          try clear c27b0
          try clear c27b1
          try clear p27
          try clear q27
          try clear hx27
          try clear c28
          try clear c28b0
          try clear c28b1
          try clear c28b2
          try clear p28
          try clear q28
          try clear hx28
          try clear qi28
          try clear c29
          try clear c29b0
          try clear c29b1
          try clear c30
          try clear c30b0
          try clear c30b1
          try clear c31
          try clear c31b0
          try clear c31b1
          try clear hx271_0
          try clear hx275_0
          try clear hx283_0
          try clear hx284_0
          try clear p2
          try clear p271
          try clear p275
          try clear p283
          try clear p284
          try clear q271
          try clear q275
          try clear q283
          try clear q284
          obtain ⟨kq, x84_21, rfl, HA, HJ21, HO_8, HO_11, HO_15, HB⟩ := hcut
          cases kq with
          | zero => exact absurd HA.out (by simp [wageofficelaw41_ReclaimTooMuch.j1])
          | succ kj21 =>
            have H := HA.out
            clear HA
            simp only [wageofficelaw41_ReclaimTooMuch.j1] at H
            by_cases c35 : x84_21 = true
            · subst c35
              have H1 : (none) = some r := by rw [if_pos rfl] at H; exact H
              clear H
              have H := H1
              clear H1
              exact absurd H (by simp)
            · replace c35 := Bool.eq_false_iff.mpr c35
              subst c35
              have H1 : (wageofficelaw41_ReclaimTooMuch.l1 kj21 t259 t260 t263 t264 x11_1 t279 0) = some r := by rw [if_neg (show ¬ (false = true) by decide)] at H; exact H
              clear H
              have H := H1
              clear H1
              have H' := Aside0.mk H
              clear H
              go_wp2
              repeat (go_quiet (fail); try go_wp2)
              go_loopg [7, 17] kj21 (fun kq v7 v17 w' => ∃ (x7_3 : Bool) (x17_3 : Int), v7 = .bool x7_3 ∧ v17 = .int .i64 x17_3 ∧ Aside0 (wageofficelaw41_ReclaimTooMuch.l1 kq x7_3 t260 t263 t264 x11_1 t279 x17_3 = some r) ∧ Aside0 (kq ≤ kj21) ∧ Aside0 (Kd.R (Kd.int .i64) 3 w' w.heap.size (fun k_ => some k_ ≠ ((.slice Ao24 x11_1.length co24) : Value).ownBlock ∧ some k_ ≠ (v281 : Value).ownBlock) (.slice Ao23 t260.length co23) t260) ∧ Aside0 (Kd.R (Kd.int .i64) 3 w' w.heap.size (fun k_ => some k_ ≠ ((.slice Ao23 t260.length co23) : Value).ownBlock ∧ some k_ ≠ (v281 : Value).ownBlock) (.slice Ao24 x11_1.length co24) x11_1) ∧ Aside0 (Kd.R (Kd.int .i64) 3 w' w.heap.size (fun k_ => some k_ ≠ ((.slice Ao23 t260.length co23) : Value).ownBlock ∧ some k_ ≠ ((.slice Ao24 x11_1.length co24) : Value).ownBlock) v281 t279) ∧ Aside0 (Below w.heap.size w w'))
              case atStart => exact ⟨(t259), (0), (by first | rfl | (simp; done) | (simp [*]; done)), (by first | rfl | (simp; done) | (simp [*]; done)), H', ⟨Nat.le_refl _⟩, ⟨by (with_reducible repeat (first | apply Kd.R_alloc | apply Kd.R_drewN | apply Kd.R_drew)); exact HO_8.out⟩, ⟨by (with_reducible repeat (first | apply Kd.R_alloc | apply Kd.R_drewN | apply Kd.R_drew)); exact HO_11.out⟩, ⟨by (with_reducible repeat (first | apply Kd.R_alloc | apply Kd.R_drewN | apply Kd.R_drew)); exact HO_15.out⟩, ⟨by repeat (first | (with_reducible first | exact HB.out | apply below_alloc | apply pw_below_drewN | apply below_drew1) | exact HB.out)⟩⟩
              case round =>
                clear H'
                try clear c1
                try clear c2
                try clear p2
                try clear q2
                try clear hx2
                try clear qi2
                try clear c3
                try clear c6
                try clear p6
                try clear c14
                try clear c14b0
                try clear c15
                try clear c15b0
                try clear c16
                try clear c17
                try clear c27
                try clear c27b0
                try clear c27b1
                try clear p27
                try clear q27
                try clear hx27
                try clear c28
                try clear c28b0
                try clear c28b1
                try clear c28b2
                try clear p28
                try clear q28
                try clear hx28
                try clear qi28
                try clear c29
                try clear c29b0
                try clear c29b1
                try clear c30
                try clear c30b0
                try clear c30b1
                try clear c31
                try clear c31b0
                try clear c31b1
                try clear c35
                try clear hx271_0
                try clear hx275_0
                try clear hx283_0
                try clear hx284_0
                try clear p2
                try clear p27
                try clear p271
                try clear p275
                try clear p28
                try clear p283
                try clear p284
                try clear p6
                try clear q2
                try clear q27
                try clear q271
                try clear q275
                try clear q28
                try clear q283
                try clear q284
                obtain ⟨x7_3, x17_3, rfl, rfl, HA, HK3, HO_8, HO_11, HO_15, HB⟩ := hrel
                cases gk with
                | zero => exact absurd HA.out (by simp [wageofficelaw41_ReclaimTooMuch.l1])
                | succ k3 =>
                  have H := HA.out
                  clear HA
                  simp only [wageofficelaw41_ReclaimTooMuch.l1] at H
                  by_cases c36 : x17_3 ≤ (t260.length : Int)
                  · rw [if_pos c36] at H
                    have c36b0 : decide (x17_3 ≤ (t260.length : Int)) = true := decide_eq_true c36
                    clear c36
                    by_cases c37 : 0 ≤ x17_3
                    · rw [if_pos c37] at H
                      have c37b0 := eq_true c37
                      have c37b1 : decide (0 ≤ x17_3) = true := decide_eq_true c37
                      clear c37
                      have c38b0 := eq_true (of_decide_eq_true (by first | (with_reducible assumption) | assumption) : x17_3 ≤ (t260.length : Int))
                      obtain ⟨y285, hy285⟩ : ∃ y_ : List Int, y_ = (t260.take (x17_3 : Int).toNat) := ⟨_, rfl⟩
                      replace H : ((reclaim_Schedule.f k3 t263 t264 y285).bind fun bt289 => (if (bt289.1.length : Int) > 0 then (if x17_3 > 0 then (if 0 ≤ (wrap64 ((bt289.1.length : Int) - 1)) then (if (wrap64 ((bt289.1.length : Int) - 1)) < (bt289.1.length : Int) then (wageofficelaw41_ReclaimTooMuch.j3 k3 x7_3 t260 t263 t264 x11_1 t279 x17_3 bt289.1 bt289.2.1 bt289.2.2 0 (((rd_T41 bt289.1 (wrap64 ((bt289.1.length : Int) - 1))).f0) == (wrap64 ((wrap64 (t264 + x17_3)) - 1)))) else (none)) else (none)) else (wageofficelaw41_ReclaimTooMuch.j3 k3 x7_3 t260 t263 t264 x11_1 t279 x17_3 bt289.1 bt289.2.1 bt289.2.2 0 false)) else (wageofficelaw41_ReclaimTooMuch.j3 k3 x7_3 t260 t263 t264 x11_1 t279 x17_3 bt289.1 bt289.2.1 bt289.2.2 0 false))) = some r := by first | (rw [hy285]; with_reducible exact H) | (have H2_ := (Option.bind_some _ _).symm.trans H; rw [hy285]; with_reducible exact H2_) | (have H2_ := (Option.bind_some _ _).symm.trans H; with_reducible exact H2_) | with_reducible exact H | (rw [hy285]; exact H) | exact H
                      have Ny285 := Aside0.mk hy285
                      clear hy285
                      replace H := Option.bind_eq_some_iff.mp H
                      obtain ⟨⟨t289, t290, t291⟩, A390, H⟩ := H
                      replace H : (if (t289.length : Int) > 0 then (if x17_3 > 0 then (if 0 ≤ (wrap64 ((t289.length : Int) - 1)) then (if (wrap64 ((t289.length : Int) - 1)) < (t289.length : Int) then (wageofficelaw41_ReclaimTooMuch.j3 k3 x7_3 t260 t263 t264 x11_1 t279 x17_3 t289 t290 t291 0 (((rd_T41 t289 (wrap64 ((t289.length : Int) - 1))).f0) == (wrap64 ((wrap64 (t264 + x17_3)) - 1)))) else (none)) else (none)) else (wageofficelaw41_ReclaimTooMuch.j3 k3 x7_3 t260 t263 t264 x11_1 t279 x17_3 t289 t290 t291 0 false)) else (wageofficelaw41_ReclaimTooMuch.j3 k3 x7_3 t260 t263 t264 x11_1 t279 x17_3 t289 t290 t291 0 false)) = some r := H
                      have A39 := Aside0.mk A390
                      clear A390
                      have HC40 := Aside0.mk H
                      clear H
                      have q41 : (x17_3 : Int) ≤ ((t260.length : Int) : Int) := of_decide_eq_true (by first | (with_reducible assumption) | assumption)
                      obtain ⟨i041, hi041, _, hsz41, _⟩ := info_parts info3
                      have hroom41 : t260.length ≤ co23 := (Kd.R_reads' HO_8.out).2.1
                      have hC41 : Kd.C (Kd.int .i64) _ Ao23 t260.length t260 := (Kd.R_reads' HO_8.out).2.2
                      have hcut41 := cut_to (P := Try.prog) 22 3 .i64 Try.underlying22 hi041 Ao23 t260.length co23 x17_3 (of_decide_eq_true (by first | (with_reducible assumption) | assumption)) q41 hroom41
                      have hr41 := Kd.C_take (m := (x17_3 : Int).toNat) hC41 (by omega)
                      have hy41 : y285.length = (x17_3 : Int).toNat := (by rw [Ny285.out, List.length_take]; omega)
                      rw [← Ny285.out] at hr41
                      rw [← hy41] at hcut41
                      have HR288 := Aside0.mk hr41
                      have HC288 := Aside0.mk (show y285.length ≤ co23 from by omega)
                      clear hr41 hC41 hroom41 hi041 hsz41
                      have KY41 := Aside0.mk hy41
                      clear hy41
                      have KL41 := Aside0.mk (show (x17_3 : Int).toNat ≤ t260.length from by omega)
                      replace q41 := eq_true q41
                      go_upto_region 22 with (first | (go_at_call 12; (with_reducible refine (reclaim_Schedule.calls k3 t263 t264 _ _ y285 t289 t290 t291 _ ?side1 ?side2 A39.out).mono ?_); (case side1 => repeat (first | exact (by repeat (first | (with_reducible exact HR288.out) | (with_reducible refine Kd.C_alloc ?_ _) | (with_reducible refine Kd.C_drewN ?_ _) | (with_reducible refine Kd.C_drew ?_) | exact HR288.out)) | (with_reducible refine Kd.C_alloc ?_ _) | (with_reducible refine Kd.C_drewN ?_ _) | (with_reducible refine Kd.C_drew ?_))); (case side2 => exact HC288.out); rintro e w42 ⟨v292, rfl, ho0, hb⟩; have n0_ := Aside0.mk (Kd.R_below (by (with_reducible repeat (first | apply Kd.R_alloc | apply Kd.R_drewN | apply Kd.R_drew)); exact HO_8.out) hb); have n1_ := Aside0.mk (Kd.R_below (by (with_reducible repeat (first | apply Kd.R_alloc | apply Kd.R_drewN | apply Kd.R_drew)); exact HO_11.out) hb); have n2_ := Aside0.mk (Kd.R_below (by (with_reducible repeat (first | apply Kd.R_alloc | apply Kd.R_drewN | apply Kd.R_drew)); exact HO_15.out) hb); have n3_ := Aside0.mk (Kd.R_lower ho0 (below_size (by repeat (first | (with_reducible first | exact HB.out | apply below_alloc | apply pw_below_drewN | apply below_drew1) | exact HB.out)))); have n4_ := Aside0.mk (Kd.C_below (by repeat (first | (with_reducible exact HR288.out) | (with_reducible refine Kd.C_alloc ?_ _) | (with_reducible refine Kd.C_drewN ?_ _) | (with_reducible refine Kd.C_drew ?_) | exact HR288.out)) hb); have n5_ := Aside0.mk (below_step (by repeat (first | (with_reducible first | exact HB.out | apply below_alloc | apply pw_below_drewN | apply below_drew1) | exact HB.out)) hb); clear HO_8; clear HO_11; clear HO_15; clear HR288; clear HB; have HO_8 := n0_; have HO_11 := n1_; have HO_15 := n2_; have HO293 := n3_; have HR288 := n4_; have HB := n5_; clear n0_ n1_ n2_ n3_ n4_ n5_; (try clear hb); (try clear hb2); (try clear hk); (try clear hi); (try clear ho0)))
                      repeat (go_quiet (first | (go_at_call 12; (with_reducible refine (reclaim_Schedule.calls k3 t263 t264 _ _ y285 t289 t290 t291 _ ?side1 ?side2 A39.out).mono ?_); (case side1 => repeat (first | exact (by repeat (first | (with_reducible exact HR288.out) | (with_reducible refine Kd.C_alloc ?_ _) | (with_reducible refine Kd.C_drewN ?_ _) | (with_reducible refine Kd.C_drew ?_) | exact HR288.out)) | (with_reducible refine Kd.C_alloc ?_ _) | (with_reducible refine Kd.C_drewN ?_ _) | (with_reducible refine Kd.C_drew ?_))); (case side2 => exact HC288.out); rintro e w42 ⟨v292, rfl, ho0, hb⟩; have n0_ := Aside0.mk (Kd.R_below (by (with_reducible repeat (first | apply Kd.R_alloc | apply Kd.R_drewN | apply Kd.R_drew)); exact HO_8.out) hb); have n1_ := Aside0.mk (Kd.R_below (by (with_reducible repeat (first | apply Kd.R_alloc | apply Kd.R_drewN | apply Kd.R_drew)); exact HO_11.out) hb); have n2_ := Aside0.mk (Kd.R_below (by (with_reducible repeat (first | apply Kd.R_alloc | apply Kd.R_drewN | apply Kd.R_drew)); exact HO_15.out) hb); have n3_ := Aside0.mk (Kd.R_lower ho0 (below_size (by repeat (first | (with_reducible first | exact HB.out | apply below_alloc | apply pw_below_drewN | apply below_drew1) | exact HB.out)))); have n4_ := Aside0.mk (Kd.C_below (by repeat (first | (with_reducible exact HR288.out) | (with_reducible refine Kd.C_alloc ?_ _) | (with_reducible refine Kd.C_drewN ?_ _) | (with_reducible refine Kd.C_drew ?_) | exact HR288.out)) hb); have n5_ := Aside0.mk (below_step (by repeat (first | (with_reducible first | exact HB.out | apply below_alloc | apply pw_below_drewN | apply below_drew1) | exact HB.out)) hb); clear HO_8; clear HO_11; clear HO_15; clear HR288; clear HB; have HO_8 := n0_; have HO_11 := n1_; have HO_15 := n2_; have HO293 := n3_; have HR288 := n4_; have HB := n5_; clear n0_ n1_ n2_ n3_ n4_ n5_; (try clear hb); (try clear hb2); (try clear hk); (try clear hi); (try clear ho0))); go_upto_region 22 with (first | (go_at_call 12; (with_reducible refine (reclaim_Schedule.calls k3 t263 t264 _ _ y285 t289 t290 t291 _ ?side1 ?side2 A39.out).mono ?_); (case side1 => repeat (first | exact (by repeat (first | (with_reducible exact HR288.out) | (with_reducible refine Kd.C_alloc ?_ _) | (with_reducible refine Kd.C_drewN ?_ _) | (with_reducible refine Kd.C_drew ?_) | exact HR288.out)) | (with_reducible refine Kd.C_alloc ?_ _) | (with_reducible refine Kd.C_drewN ?_ _) | (with_reducible refine Kd.C_drew ?_))); (case side2 => exact HC288.out); rintro e w42 ⟨v292, rfl, ho0, hb⟩; have n0_ := Aside0.mk (Kd.R_below (by (with_reducible repeat (first | apply Kd.R_alloc | apply Kd.R_drewN | apply Kd.R_drew)); exact HO_8.out) hb); have n1_ := Aside0.mk (Kd.R_below (by (with_reducible repeat (first | apply Kd.R_alloc | apply Kd.R_drewN | apply Kd.R_drew)); exact HO_11.out) hb); have n2_ := Aside0.mk (Kd.R_below (by (with_reducible repeat (first | apply Kd.R_alloc | apply Kd.R_drewN | apply Kd.R_drew)); exact HO_15.out) hb); have n3_ := Aside0.mk (Kd.R_lower ho0 (below_size (by repeat (first | (with_reducible first | exact HB.out | apply below_alloc | apply pw_below_drewN | apply below_drew1) | exact HB.out)))); have n4_ := Aside0.mk (Kd.C_below (by repeat (first | (with_reducible exact HR288.out) | (with_reducible refine Kd.C_alloc ?_ _) | (with_reducible refine Kd.C_drewN ?_ _) | (with_reducible refine Kd.C_drew ?_) | exact HR288.out)) hb); have n5_ := Aside0.mk (below_step (by repeat (first | (with_reducible first | exact HB.out | apply below_alloc | apply pw_below_drewN | apply below_drew1) | exact HB.out)) hb); clear HO_8; clear HO_11; clear HO_15; clear HR288; clear HB; have HO_8 := n0_; have HO_11 := n1_; have HO_15 := n2_; have HO293 := n3_; have HR288 := n4_; have HB := n5_; clear n0_ n1_ n2_ n3_ n4_ n5_; (try clear hb); (try clear hb2); (try clear hk); (try clear hi); (try clear ho0))))
                      (try simp only [Act.put, List.setIfInBounds_toArray, List.set_cons_zero, List.set_cons_succ])
                      go_cut [121] (fun v121 wc => ∃ (kq : Nat) (x121_39 : Bool), v121 = .bool x121_39 ∧ Aside0 (wageofficelaw41_ReclaimTooMuch.j3 kq x7_3 t260 t263 t264 x11_1 t279 x17_3 t289 t290 t291 0 x121_39 = some r) ∧ Aside0 (kq ≤ k3) ∧ Aside0 (Kd.R (Kd.int .i64) 3 wc w.heap.size (fun k_ => some k_ ≠ ((.slice Ao24 x11_1.length co24) : Value).ownBlock ∧ some k_ ≠ (v281 : Value).ownBlock) (.slice Ao23 t260.length co23) t260) ∧ Aside0 (Kd.R (Kd.int .i64) 3 wc w.heap.size (fun k_ => some k_ ≠ ((.slice Ao23 t260.length co23) : Value).ownBlock ∧ some k_ ≠ (v281 : Value).ownBlock) (.slice Ao24 x11_1.length co24) x11_1) ∧ Aside0 (Kd.R (Kd.int .i64) 3 wc w.heap.size (fun k_ => some k_ ≠ ((.slice Ao23 t260.length co23) : Value).ownBlock ∧ some k_ ≠ ((.slice Ao24 x11_1.length co24) : Value).ownBlock) v281 t279) ∧ Aside0 (Kd.R k41 41 wc w.heap.size (fun _ => True) v292 t289) ∧ Aside0 (Kd.C (Kd.int .i64) wc Ao23 y285.length y285) ∧ Aside0 (Below w.heap.size w wc))
                      case first =>
                        have H := HC40.out
                        clear HC40
                        by_cases c43 : (t289.length : Int) > 0
                        · rw [if_pos c43] at H
                          have c43b0 : decide (0 < (t289.length : Int)) = true := decide_eq_true c43
                          have c43b1 : decide (0 < t289.length) = true := decide_eq_true (by omega)
                          clear c43
                          (first | rw [c43b0] | (simp only [i64_w, i32_w]; rw [c43b0]) | skip)
                          by_cases c44 : x17_3 > 0
                          · rw [if_pos c44] at H
                            have c44b0 : decide (0 < x17_3) = true := decide_eq_true c44
                            clear c44
                            obtain ⟨ji45, hji45⟩ : ∃ j_ : Int, (wrap64 ((t289.length : Int) - 1)) = j_ := ⟨_, rfl⟩
                            replace H : (if 0 ≤ (ji45) then (if (ji45) < (t289.length : Int) then (wageofficelaw41_ReclaimTooMuch.j3 k3 x7_3 t260 t263 t264 x11_1 t279 x17_3 t289 t290 t291 0 (((rd_T41 t289 (ji45)).f0) == (wrap64 ((wrap64 (t264 + x17_3)) - 1)))) else (none)) else (none)) = some r := by first | (rw [hji45] at H; exact H) | (simp only [hji45] at H ⊢; exact H)
                            have hji45w : (IntKind.i64.wrap ((t289.length : Int) - 1)) = ji45 := (i64_w _).trans hji45
                            by_cases c46 : 0 ≤ (ji45)
                            · rw [if_pos c46] at H
                              have c46b0 : decide (0 ≤ (ji45)) = true := decide_eq_true c46
                              clear c46
                              by_cases c47 : (ji45) < (t289.length : Int)
                              · rw [if_pos c47] at H
                                have c47b0 : decide ((ji45) < (t289.length : Int)) = true := decide_eq_true c47
                                clear c47
                                have H' := Aside0.mk H
                                clear H
                                obtain ⟨Ao48, co48, eo48⟩ := Kd.R_slice HO293.out
                                subst eo48
                                have p294 : 0 ≤ ((ji45) : Int) := of_decide_eq_true (by first | (with_reducible assumption) | assumption)
                                have q294 : (ji45) < (t289.length : Int) := of_decide_eq_true (by first | (with_reducible assumption) | assumption)
                                obtain ⟨ad294, e294, hx294_0, hx294_1⟩ := at_T41 (Kd.R_reads' HO293.out).2.2 (ji45) p294 q294
                                cases e294
                                replace p294 := eq_true p294
                                replace q294 := eq_true q294
                                go_wp2
                                repeat (go_quiet (fail); try go_wp2)
                                go_meet
                                case rel => exact ⟨_, ((((rd_T41 t289 (ji45)).f0) == (wrap64 ((wrap64 (t264 + x17_3)) - 1)))), (by first | rfl | (simp; done) | (simp only [← hji45] <;> (first | rfl | (simp; done) | (rw [Int.tdiv_eq_ediv_of_nonneg (by unfold mx; split <;> omega)]))) | (simp [*]; done)), H', ⟨by have := HK1.out; have := HJ21.out; have := HK3.out; first | omega | exact Nat.le_refl _⟩, ⟨by (with_reducible repeat (first | apply Kd.R_alloc | apply Kd.R_drewN | apply Kd.R_drew)); exact HO_8.out⟩, ⟨by (with_reducible repeat (first | apply Kd.R_alloc | apply Kd.R_drewN | apply Kd.R_drew)); exact HO_11.out⟩, ⟨by (with_reducible repeat (first | apply Kd.R_alloc | apply Kd.R_drewN | apply Kd.R_drew)); exact HO_15.out⟩, ⟨by (with_reducible repeat (first | apply Kd.R_alloc | apply Kd.R_drewN | apply Kd.R_drew)); exact HO293.out⟩, ⟨by repeat (first | (with_reducible exact HR288.out) | (with_reducible refine Kd.C_alloc ?_ _) | (with_reducible refine Kd.C_drewN ?_ _) | (with_reducible refine Kd.C_drew ?_) | exact HR288.out)⟩, ⟨by repeat (first | (with_reducible first | exact HB.out | apply below_alloc | apply pw_below_drewN | apply below_drew1) | exact HB.out)⟩⟩
                              · rw [if_neg c47] at H
                                exact absurd H (by simp)
                            · rw [if_neg c46] at H
                              exact absurd H (by simp)
                          · rw [if_neg c44] at H
                            have c44b0 : decide (0 < x17_3) = false := decide_eq_false c44
                            clear c44
                            have H' := Aside0.mk H
                            clear H
                            obtain ⟨Ao49, co49, eo49⟩ := Kd.R_slice HO293.out
                            subst eo49
                            go_wp2
                            repeat (go_quiet (fail); try go_wp2)
                            go_meet
                            case rel => exact ⟨_, (false), (by first | rfl | (simp; done) | (simp [*]; done)), H', ⟨by have := HK1.out; have := HJ21.out; have := HK3.out; first | omega | exact Nat.le_refl _⟩, ⟨by (with_reducible repeat (first | apply Kd.R_alloc | apply Kd.R_drewN | apply Kd.R_drew)); exact HO_8.out⟩, ⟨by (with_reducible repeat (first | apply Kd.R_alloc | apply Kd.R_drewN | apply Kd.R_drew)); exact HO_11.out⟩, ⟨by (with_reducible repeat (first | apply Kd.R_alloc | apply Kd.R_drewN | apply Kd.R_drew)); exact HO_15.out⟩, ⟨by (with_reducible repeat (first | apply Kd.R_alloc | apply Kd.R_drewN | apply Kd.R_drew)); exact HO293.out⟩, ⟨by repeat (first | (with_reducible exact HR288.out) | (with_reducible refine Kd.C_alloc ?_ _) | (with_reducible refine Kd.C_drewN ?_ _) | (with_reducible refine Kd.C_drew ?_) | exact HR288.out)⟩, ⟨by repeat (first | (with_reducible first | exact HB.out | apply below_alloc | apply pw_below_drewN | apply below_drew1) | exact HB.out)⟩⟩
                        · rw [if_neg c43] at H
                          have c43b0 : decide (0 < (t289.length : Int)) = false := decide_eq_false c43
                          have c43b1 : decide (0 < t289.length) = false := decide_eq_false (by omega)
                          clear c43
                          (first | rw [c43b0] | (simp only [i64_w, i32_w]; rw [c43b0]) | skip)
                          have H' := Aside0.mk H
                          clear H
                          obtain ⟨Ao50, co50, eo50⟩ := Kd.R_slice HO293.out
                          subst eo50
                          go_wp2
                          repeat (go_quiet (fail); try go_wp2)
                          go_meet
                          case rel => exact ⟨_, (false), (by first | rfl | (simp; done) | (simp [*]; done)), H', ⟨by have := HK1.out; have := HJ21.out; have := HK3.out; first | omega | exact Nat.le_refl _⟩, ⟨by (with_reducible repeat (first | apply Kd.R_alloc | apply Kd.R_drewN | apply Kd.R_drew)); exact HO_8.out⟩, ⟨by (with_reducible repeat (first | apply Kd.R_alloc | apply Kd.R_drewN | apply Kd.R_drew)); exact HO_11.out⟩, ⟨by (with_reducible repeat (first | apply Kd.R_alloc | apply Kd.R_drewN | apply Kd.R_drew)); exact HO_15.out⟩, ⟨by (with_reducible repeat (first | apply Kd.R_alloc | apply Kd.R_drewN | apply Kd.R_drew)); exact HO293.out⟩, ⟨by repeat (first | (with_reducible exact HR288.out) | (with_reducible refine Kd.C_alloc ?_ _) | (with_reducible refine Kd.C_drewN ?_ _) | (with_reducible refine Kd.C_drew ?_) | exact HR288.out)⟩, ⟨by repeat (first | (with_reducible first | exact HB.out | apply below_alloc | apply pw_below_drewN | apply below_drew1) | exact HB.out)⟩⟩
                      case rest =>
                        clear HC40
                        try clear c1
                        try clear c2
                        try clear p2
                        try clear q2
                        try clear hx2
                        try clear qi2
                        try clear c3
                        try clear c4
                        try clear q4
                        try clear c6
                        try clear p6
                        try clear c14
                        try clear c14b0
                        try clear c15
                        try clear c15b0
                        try clear c16
                        try clear c17
                        try clear c27
                        try clear c27b0
                        try clear c27b1
                        try clear p27
                        try clear q27
                        try clear hx27
                        try clear c28
                        try clear c28b0
                        try clear c28b1
                        try clear c28b2
                        try clear p28
                        try clear q28
                        try clear hx28
                        try clear qi28
                        try clear c29
                        try clear c29b0
                        try clear c29b1
                        try clear p29
                        try clear q29
                        try clear hx29
                        try clear c30
                        try clear c30b0
                        try clear c30b1
                        try clear c31
                        try clear c31b0
                        try clear c31b1
                        try clear c35
                        try clear c36
                        try clear c36b0
                        try clear c37
                        try clear c37b0
                        try clear c37b1
                        try clear c38
                        try clear c38b0
                        try clear q41
                        try clear c43
                        try clear c43b0
                        try clear c43b1
                        try clear c44
                        try clear c44b0
                        try clear c46
                        try clear c46b0
                        try clear c47
                        try clear c47b0
                        try clear hx271_0
                        try clear hx275_0
                        try clear hx283_0
                        try clear hx284_0
                        try clear hx294_0
                        try clear hx294_1
                        try clear p2
                        try clear p27
                        try clear p271
                        try clear p275
                        try clear p28
                        try clear p283
                        try clear p284
                        try clear p294
                        try clear p6
                        try clear q2
                        try clear q27
                        try clear q271
                        try clear q275
                        try clear q28
                        try clear q283
                        try clear q284
                        try clear q294
                        try clear q41
                        obtain ⟨kq, x121_39, rfl, HA, HJ39, HO_8, HO_11, HO_15, HO_18, HR288, HB⟩ := hcut
                        cases kq with
                        | zero => exact absurd HA.out (by simp [wageofficelaw41_ReclaimTooMuch.j3])
                        | succ kj39 =>
                          have H := HA.out
                          clear HA
                          simp only [wageofficelaw41_ReclaimTooMuch.j3] at H
                          by_cases c51 : x121_39 = true
                          · subst c51
                            have H1 : (if 0 ≤ (wrap64 ((t289.length : Int) - 1)) then (if (wrap64 ((t289.length : Int) - 1)) < (t289.length : Int) then (if x7_3 = true then (if t291 = 0 then (if 0 ≤ (wrap64 (x17_3 + 1)) then (if (wrap64 (x17_3 + 1)) < (t279.length : Int) then (if (wrap64 (x17_3 + 1)) < (x11_1.length : Int) then (if (wrap64 ((rd t279 (wrap64 (x17_3 + 1))) - (rd x11_1 (wrap64 (x17_3 + 1))))) = t290 then (if x17_3 = 0 then (wageofficelaw41_ReclaimTooMuch.l1 kj39 true t260 t263 t264 x11_1 t279 (wrap64 (x17_3 + 1))) else (if 0 ≤ x17_3 then (if x17_3 < (t279.length : Int) then (if 0 ≤ (wrap64 (x17_3 - 1)) then (if (wrap64 (x17_3 - 1)) < (t260.length : Int) then (wageofficelaw41_ReclaimTooMuch.l1 kj39 ((wrap64 ((rd t279 (wrap64 (x17_3 + 1))) - (rd t279 x17_3))) == (wrap64 ((rd t260 (wrap64 (x17_3 - 1))) - ((rd_T41 t289 (wrap64 ((t289.length : Int) - 1))).f1)))) t260 t263 t264 x11_1 t279 (wrap64 (x17_3 + 1))) else (none)) else (none)) else (none)) else (none))) else (none)) else (none)) else (none)) else (none)) else (none)) else (none)) else (none)) else (none)) = some r := by rw [if_pos rfl] at H; exact H
                            clear H
                            have H := H1
                            clear H1
                            obtain ⟨ji52, hji52⟩ : ∃ j_ : Int, (wrap64 ((t289.length : Int) - 1)) = j_ := ⟨_, rfl⟩
                            replace H : (if 0 ≤ (ji52) then (if (ji52) < (t289.length : Int) then (if x7_3 = true then (if t291 = 0 then (if 0 ≤ (wrap64 (x17_3 + 1)) then (if (wrap64 (x17_3 + 1)) < (t279.length : Int) then (if (wrap64 (x17_3 + 1)) < (x11_1.length : Int) then (if (wrap64 ((rd t279 (wrap64 (x17_3 + 1))) - (rd x11_1 (wrap64 (x17_3 + 1))))) = t290 then (if x17_3 = 0 then (wageofficelaw41_ReclaimTooMuch.l1 kj39 true t260 t263 t264 x11_1 t279 (wrap64 (x17_3 + 1))) else (if 0 ≤ x17_3 then (if x17_3 < (t279.length : Int) then (if 0 ≤ (wrap64 (x17_3 - 1)) then (if (wrap64 (x17_3 - 1)) < (t260.length : Int) then (wageofficelaw41_ReclaimTooMuch.l1 kj39 ((wrap64 ((rd t279 (wrap64 (x17_3 + 1))) - (rd t279 x17_3))) == (wrap64 ((rd t260 (wrap64 (x17_3 - 1))) - ((rd_T41 t289 (ji52)).f1)))) t260 t263 t264 x11_1 t279 (wrap64 (x17_3 + 1))) else (none)) else (none)) else (none)) else (none))) else (none)) else (none)) else (none)) else (none)) else (none)) else (none)) else (none)) else (none)) = some r := by first | (rw [hji52] at H; exact H) | (simp only [hji52] at H ⊢; exact H)
                            have hji52w : (IntKind.i64.wrap ((t289.length : Int) - 1)) = ji52 := (i64_w _).trans hji52
                            by_cases c53 : 0 ≤ (ji52)
                            · rw [if_pos c53] at H
                              have c53b0 : decide (0 ≤ (ji52)) = true := decide_eq_true c53
                              clear c53
                              by_cases c54 : (ji52) < (t289.length : Int)
                              · rw [if_pos c54] at H
                                have c54b0 : decide ((ji52) < (t289.length : Int)) = true := decide_eq_true c54
                                clear c54
                                by_cases c55 : x7_3 = true
                                · subst c55
                                  have H1 : (if t291 = 0 then (if 0 ≤ (wrap64 (x17_3 + 1)) then (if (wrap64 (x17_3 + 1)) < (t279.length : Int) then (if (wrap64 (x17_3 + 1)) < (x11_1.length : Int) then (if (wrap64 ((rd t279 (wrap64 (x17_3 + 1))) - (rd x11_1 (wrap64 (x17_3 + 1))))) = t290 then (if x17_3 = 0 then (wageofficelaw41_ReclaimTooMuch.l1 kj39 true t260 t263 t264 x11_1 t279 (wrap64 (x17_3 + 1))) else (if 0 ≤ x17_3 then (if x17_3 < (t279.length : Int) then (if 0 ≤ (wrap64 (x17_3 - 1)) then (if (wrap64 (x17_3 - 1)) < (t260.length : Int) then (wageofficelaw41_ReclaimTooMuch.l1 kj39 ((wrap64 ((rd t279 (wrap64 (x17_3 + 1))) - (rd t279 x17_3))) == (wrap64 ((rd t260 (wrap64 (x17_3 - 1))) - ((rd_T41 t289 (ji52)).f1)))) t260 t263 t264 x11_1 t279 (wrap64 (x17_3 + 1))) else (none)) else (none)) else (none)) else (none))) else (none)) else (none)) else (none)) else (none)) else (none)) = some r := by rw [if_pos rfl] at H; exact H
                                  clear H
                                  have H := H1
                                  clear H1
                                  by_cases c56 : t291 = 0
                                  · rw [if_pos c56] at H
                                    have c56b0 : (t291 == 0) = true := beq_iff_eq.mpr c56
                                    have c56b1 : (t291 != 0) = false := bne_eq_false_iff_eq.mpr c56
                                    clear c56
                                    obtain ⟨ji57, hji57⟩ : ∃ j_ : Int, (wrap64 (x17_3 + 1)) = j_ := ⟨_, rfl⟩
                                    replace H : (if 0 ≤ (ji57) then (if (ji57) < (t279.length : Int) then (if (ji57) < (x11_1.length : Int) then (if (wrap64 ((rd t279 (ji57)) - (rd x11_1 (ji57)))) = t290 then (if x17_3 = 0 then (wageofficelaw41_ReclaimTooMuch.l1 kj39 true t260 t263 t264 x11_1 t279 ji57) else (if 0 ≤ x17_3 then (if x17_3 < (t279.length : Int) then (if 0 ≤ (wrap64 (x17_3 - 1)) then (if (wrap64 (x17_3 - 1)) < (t260.length : Int) then (wageofficelaw41_ReclaimTooMuch.l1 kj39 ((wrap64 ((rd t279 (ji57)) - (rd t279 x17_3))) == (wrap64 ((rd t260 (wrap64 (x17_3 - 1))) - ((rd_T41 t289 (ji52)).f1)))) t260 t263 t264 x11_1 t279 ji57) else (none)) else (none)) else (none)) else (none))) else (none)) else (none)) else (none)) else (none)) = some r := by first | (rw [hji57] at H; exact H) | (simp only [hji57] at H ⊢; exact H)
                                    have hji57w : (IntKind.i64.wrap (x17_3 + 1)) = ji57 := (i64_w _).trans hji57
                                    by_cases c58 : 0 ≤ (ji57)
                                    · rw [if_pos c58] at H
                                      have c58b0 : decide (0 ≤ (ji57)) = true := decide_eq_true c58
                                      clear c58
                                      by_cases c59 : (ji57) < (t279.length : Int)
                                      · rw [if_pos c59] at H
                                        have c59b0 : decide ((ji57) < (t279.length : Int)) = true := decide_eq_true c59
                                        clear c59
                                        by_cases c60 : (ji57) < (x11_1.length : Int)
                                        · rw [if_pos c60] at H
                                          have c60b0 : decide ((ji57) < (x11_1.length : Int)) = true := decide_eq_true c60
                                          clear c60
                                          by_cases c61 : (wrap64 ((rd t279 (ji57)) - (rd x11_1 (ji57)))) = t290
                                          · rw [if_pos c61] at H
                                            have c61b0 : ((wrap64 ((rd t279 (ji57)) - (rd x11_1 (ji57)))) == t290) = true := beq_iff_eq.mpr c61
                                            have c61b1 : ((wrap64 ((rd t279 (ji57)) - (rd x11_1 (ji57)))) != t290) = false := bne_eq_false_iff_eq.mpr c61
                                            clear c61
                                            by_cases c62 : x17_3 = 0
                                            · rw [if_pos c62] at H
                                              have c62b0 : (x17_3 == 0) = true := beq_iff_eq.mpr c62
                                              have c62b1 : (x17_3 != 0) = false := bne_eq_false_iff_eq.mpr c62
                                              clear c62
                                              have H' := Aside0.mk H
                                              clear H
                                              obtain ⟨Ao63, co63, eo63⟩ := Kd.R_slice HO_18.out
                                              subst eo63
                                              have p295 : 0 ≤ ((ji52) : Int) := of_decide_eq_true (by first | (with_reducible assumption) | assumption)
                                              have q295 : (ji52) < (t289.length : Int) := of_decide_eq_true (by first | (with_reducible assumption) | assumption)
                                              obtain ⟨ad295, e295, hx295_0, hx295_1⟩ := at_T41 (Kd.R_reads' HO_18.out).2.2 (ji52) p295 q295
                                              cases e295
                                              replace p295 := eq_true p295
                                              replace q295 := eq_true q295
                                              obtain ⟨Ao64, co64, eo64⟩ := Kd.R_slice HO_15.out
                                              subst eo64
                                              have p296 : 0 ≤ ((ji57) : Int) := of_decide_eq_true (by first | (with_reducible assumption) | assumption)
                                              have q296 : (ji57) < (t279.length : Int) := of_decide_eq_true (by first | (with_reducible assumption) | assumption)
                                              obtain ⟨ad296, e296, hx296_0⟩ := Kd.at_int (Kd.R_reads' HO_15.out).2.2 (ji57) p296 q296
                                              cases e296
                                              replace p296 := eq_true p296
                                              replace q296 := eq_true q296
                                              have p297 : 0 ≤ ((ji57) : Int) := of_decide_eq_true (by first | (with_reducible assumption) | assumption)
                                              have q297 : (ji57) < (x11_1.length : Int) := of_decide_eq_true (by first | (with_reducible assumption) | assumption)
                                              obtain ⟨ad297, e297, hx297_0⟩ := Kd.at_int (Kd.R_reads' HO_11.out).2.2 (ji57) p297 q297
                                              cases e297
                                              replace p297 := eq_true p297
                                              replace q297 := eq_true q297
                                              go_wp2
                                              repeat (go_quiet (fail); try go_wp2)
                                              go_roundg kj39
                                              case measure => have := HK1.out; have := HJ21.out; have := HK3.out; have := HJ39.out; omega
                                              case rel => exact ⟨(true), (ji57), (by first | rfl | (simp; done) | (simp [*]; done)), (by first | rfl | (simp; done) | (simp only [← hji57] <;> (first | rfl | (simp; done) | (rw [Int.tdiv_eq_ediv_of_nonneg (by unfold mx; split <;> omega)]))) | (simp [*]; done)), H', ⟨by have := HK1.out; have := HJ21.out; have := HK3.out; have := HJ39.out; omega⟩, ⟨by (with_reducible repeat (first | apply Kd.R_alloc | apply Kd.R_drewN | apply Kd.R_drew)); exact HO_8.out⟩, ⟨by (with_reducible repeat (first | apply Kd.R_alloc | apply Kd.R_drewN | apply Kd.R_drew)); exact HO_11.out⟩, ⟨by (with_reducible repeat (first | apply Kd.R_alloc | apply Kd.R_drewN | apply Kd.R_drew)); exact HO_15.out⟩, ⟨by repeat (first | (with_reducible first | exact HB.out | apply below_alloc | apply pw_below_drewN | apply below_drew1) | exact HB.out)⟩⟩
                                            · rw [if_neg c62] at H
                                              have c62b0 : (x17_3 == 0) = false := beq_eq_false_iff_ne.mpr c62
                                              have c62b1 : (x17_3 != 0) = true := bne_iff_ne.mpr c62
                                              by_cases c65 : 0 ≤ x17_3
                                              · rw [if_pos c65] at H
                                                have c65b0 : decide (0 ≤ x17_3) = true := decide_eq_true c65
                                                clear c65
                                                by_cases c66 : x17_3 < (t279.length : Int)
                                                · rw [if_pos c66] at H
                                                  have c66b0 : decide (x17_3 < (t279.length : Int)) = true := decide_eq_true c66
                                                  clear c66
                                                  obtain ⟨ji67, hji67⟩ : ∃ j_ : Int, (wrap64 (x17_3 - 1)) = j_ := ⟨_, rfl⟩
                                                  replace H : (if 0 ≤ (ji67) then (if (ji67) < (t260.length : Int) then (wageofficelaw41_ReclaimTooMuch.l1 kj39 ((wrap64 ((rd t279 (ji57)) - (rd t279 x17_3))) == (wrap64 ((rd t260 (ji67)) - ((rd_T41 t289 (ji52)).f1)))) t260 t263 t264 x11_1 t279 ji57) else (none)) else (none)) = some r := by first | (rw [hji67] at H; exact H) | (simp only [hji67] at H ⊢; exact H)
                                                  have hji67w : (IntKind.i64.wrap (x17_3 - 1)) = ji67 := (i64_w _).trans hji67
                                                  by_cases c68 : 0 ≤ (ji67)
                                                  · rw [if_pos c68] at H
                                                    have c68b0 : decide (0 ≤ (ji67)) = true := decide_eq_true c68
                                                    clear c68
                                                    by_cases c69 : (ji67) < (t260.length : Int)
                                                    · rw [if_pos c69] at H
                                                      have c69b0 : decide ((ji67) < (t260.length : Int)) = true := decide_eq_true c69
                                                      clear c69
                                                      have H' := Aside0.mk H
                                                      clear H
                                                      obtain ⟨Ao70, co70, eo70⟩ := Kd.R_slice HO_18.out
                                                      subst eo70
                                                      have p295 : 0 ≤ ((ji52) : Int) := of_decide_eq_true (by first | (with_reducible assumption) | assumption)
                                                      have q295 : (ji52) < (t289.length : Int) := of_decide_eq_true (by first | (with_reducible assumption) | assumption)
                                                      obtain ⟨ad295, e295, hx295_0, hx295_1⟩ := at_T41 (Kd.R_reads' HO_18.out).2.2 (ji52) p295 q295
                                                      cases e295
                                                      replace p295 := eq_true p295
                                                      replace q295 := eq_true q295
                                                      obtain ⟨Ao71, co71, eo71⟩ := Kd.R_slice HO_15.out
                                                      subst eo71
                                                      have p296 : 0 ≤ ((ji57) : Int) := of_decide_eq_true (by first | (with_reducible assumption) | assumption)
                                                      have q296 : (ji57) < (t279.length : Int) := of_decide_eq_true (by first | (with_reducible assumption) | assumption)
                                                      obtain ⟨ad296, e296, hx296_0⟩ := Kd.at_int (Kd.R_reads' HO_15.out).2.2 (ji57) p296 q296
                                                      cases e296
                                                      replace p296 := eq_true p296
                                                      replace q296 := eq_true q296
                                                      have p297 : 0 ≤ ((ji57) : Int) := of_decide_eq_true (by first | (with_reducible assumption) | assumption)
                                                      have q297 : (ji57) < (x11_1.length : Int) := of_decide_eq_true (by first | (with_reducible assumption) | assumption)
                                                      obtain ⟨ad297, e297, hx297_0⟩ := Kd.at_int (Kd.R_reads' HO_11.out).2.2 (ji57) p297 q297
                                                      cases e297
                                                      replace p297 := eq_true p297
                                                      replace q297 := eq_true q297
                                                      have p298 : 0 ≤ ((ji57) : Int) := of_decide_eq_true (by first | (with_reducible assumption) | assumption)
                                                      have q298 : (ji57) < (t279.length : Int) := of_decide_eq_true (by first | (with_reducible assumption) | assumption)
                                                      obtain ⟨ad298, e298, hx298_0⟩ := Kd.at_int (Kd.R_reads' HO_15.out).2.2 (ji57) p298 q298
                                                      obtain rfl : ad296 = ad298 := (by injection e298)
                                                      replace p298 := eq_true p298
                                                      replace q298 := eq_true q298
                                                      have p299 : 0 ≤ (x17_3 : Int) := of_decide_eq_true (by first | (with_reducible assumption) | assumption)
                                                      have q299 : x17_3 < (t279.length : Int) := of_decide_eq_true (by first | (with_reducible assumption) | assumption)
                                                      obtain ⟨ad299, e299, hx299_0⟩ := Kd.at_int (Kd.R_reads' HO_15.out).2.2 x17_3 p299 q299
                                                      obtain rfl : ad296 = ad299 := (by injection e299)
                                                      replace p299 := eq_true p299
                                                      replace q299 := eq_true q299
                                                      have p300 : 0 ≤ ((ji67) : Int) := of_decide_eq_true (by first | (with_reducible assumption) | assumption)
                                                      have q300 : (ji67) < (t260.length : Int) := of_decide_eq_true (by first | (with_reducible assumption) | assumption)
                                                      obtain ⟨ad300, e300, hx300_0⟩ := Kd.at_int (Kd.R_reads' HO_8.out).2.2 (ji67) p300 q300
                                                      cases e300
                                                      replace p300 := eq_true p300
                                                      replace q300 := eq_true q300
                                                      go_wp2
                                                      repeat (go_quiet (fail); try go_wp2)
                                                      go_roundg kj39
                                                      case measure => have := HK1.out; have := HJ21.out; have := HK3.out; have := HJ39.out; omega
                                                      case rel => exact ⟨(((wrap64 ((rd t279 (ji57)) - (rd t279 x17_3))) == (wrap64 ((rd t260 (ji67)) - ((rd_T41 t289 (ji52)).f1))))), (ji57), (by first | rfl | (simp; done) | (simp only [← hji52, ← hji57, ← hji67] <;> (first | rfl | (simp; done) | (rw [Int.tdiv_eq_ediv_of_nonneg (by unfold mx; split <;> omega)]))) | (simp [*]; done)), (by first | rfl | (simp; done) | (simp only [← hji57] <;> (first | rfl | (simp; done) | (rw [Int.tdiv_eq_ediv_of_nonneg (by unfold mx; split <;> omega)]))) | (simp [*]; done)), H', ⟨by have := HK1.out; have := HJ21.out; have := HK3.out; have := HJ39.out; omega⟩, ⟨by (with_reducible repeat (first | apply Kd.R_alloc | apply Kd.R_drewN | apply Kd.R_drew)); exact HO_8.out⟩, ⟨by (with_reducible repeat (first | apply Kd.R_alloc | apply Kd.R_drewN | apply Kd.R_drew)); exact HO_11.out⟩, ⟨by (with_reducible repeat (first | apply Kd.R_alloc | apply Kd.R_drewN | apply Kd.R_drew)); exact HO_15.out⟩, ⟨by repeat (first | (with_reducible first | exact HB.out | apply below_alloc | apply pw_below_drewN | apply below_drew1) | exact HB.out)⟩⟩
                                                    · rw [if_neg c69] at H
                                                      exact absurd H (by simp)
                                                  · rw [if_neg c68] at H
                                                    exact absurd H (by simp)
                                                · rw [if_neg c66] at H
                                                  exact absurd H (by simp)
                                              · rw [if_neg c65] at H
                                                exact absurd H (by simp)
                                          · rw [if_neg c61] at H
                                            exact absurd H (by simp)
                                        · rw [if_neg c60] at H
                                          exact absurd H (by simp)
                                      · rw [if_neg c59] at H
                                        exact absurd H (by simp)
                                    · rw [if_neg c58] at H
                                      exact absurd H (by simp)
                                  · rw [if_neg c56] at H
                                    exact absurd H (by simp)
                                · replace c55 := Bool.eq_false_iff.mpr c55
                                  subst c55
                                  have H1 : (none) = some r := by rw [if_neg (show ¬ (false = true) by decide)] at H; exact H
                                  clear H
                                  have H := H1
                                  clear H1
                                  exact absurd H (by simp)
                              · rw [if_neg c54] at H
                                exact absurd H (by simp)
                            · rw [if_neg c53] at H
                              exact absurd H (by simp)
                          · replace c51 := Bool.eq_false_iff.mpr c51
                            subst c51
                            have H1 : (if x7_3 = true then (if t291 = 0 then (if 0 ≤ (wrap64 (x17_3 + 1)) then (if (wrap64 (x17_3 + 1)) < (t279.length : Int) then (if (wrap64 (x17_3 + 1)) < (x11_1.length : Int) then (if (wrap64 ((rd t279 (wrap64 (x17_3 + 1))) - (rd x11_1 (wrap64 (x17_3 + 1))))) = t290 then (if x17_3 = 0 then (wageofficelaw41_ReclaimTooMuch.l1 kj39 true t260 t263 t264 x11_1 t279 (wrap64 (x17_3 + 1))) else (if 0 ≤ x17_3 then (if x17_3 < (t279.length : Int) then (if 0 ≤ (wrap64 (x17_3 - 1)) then (if (wrap64 (x17_3 - 1)) < (t260.length : Int) then (wageofficelaw41_ReclaimTooMuch.l1 kj39 ((wrap64 ((rd t279 (wrap64 (x17_3 + 1))) - (rd t279 x17_3))) == (wrap64 ((rd t260 (wrap64 (x17_3 - 1))) - 0))) t260 t263 t264 x11_1 t279 (wrap64 (x17_3 + 1))) else (none)) else (none)) else (none)) else (none))) else (none)) else (none)) else (none)) else (none)) else (none)) else (none)) = some r := by rw [if_neg (show ¬ (false = true) by decide)] at H; exact H
                            clear H
                            have H := H1
                            clear H1
                            by_cases c72 : x7_3 = true
                            · subst c72
                              have H1 : (if t291 = 0 then (if 0 ≤ (wrap64 (x17_3 + 1)) then (if (wrap64 (x17_3 + 1)) < (t279.length : Int) then (if (wrap64 (x17_3 + 1)) < (x11_1.length : Int) then (if (wrap64 ((rd t279 (wrap64 (x17_3 + 1))) - (rd x11_1 (wrap64 (x17_3 + 1))))) = t290 then (if x17_3 = 0 then (wageofficelaw41_ReclaimTooMuch.l1 kj39 true t260 t263 t264 x11_1 t279 (wrap64 (x17_3 + 1))) else (if 0 ≤ x17_3 then (if x17_3 < (t279.length : Int) then (if 0 ≤ (wrap64 (x17_3 - 1)) then (if (wrap64 (x17_3 - 1)) < (t260.length : Int) then (wageofficelaw41_ReclaimTooMuch.l1 kj39 ((wrap64 ((rd t279 (wrap64 (x17_3 + 1))) - (rd t279 x17_3))) == (wrap64 ((rd t260 (wrap64 (x17_3 - 1))) - 0))) t260 t263 t264 x11_1 t279 (wrap64 (x17_3 + 1))) else (none)) else (none)) else (none)) else (none))) else (none)) else (none)) else (none)) else (none)) else (none)) = some r := by rw [if_pos rfl] at H; exact H
                              clear H
                              have H := H1
                              clear H1
                              by_cases c73 : t291 = 0
                              · rw [if_pos c73] at H
                                have c73b0 : (t291 == 0) = true := beq_iff_eq.mpr c73
                                have c73b1 : (t291 != 0) = false := bne_eq_false_iff_eq.mpr c73
                                clear c73
                                obtain ⟨ji74, hji74⟩ : ∃ j_ : Int, (wrap64 (x17_3 + 1)) = j_ := ⟨_, rfl⟩
                                replace H : (if 0 ≤ (ji74) then (if (ji74) < (t279.length : Int) then (if (ji74) < (x11_1.length : Int) then (if (wrap64 ((rd t279 (ji74)) - (rd x11_1 (ji74)))) = t290 then (if x17_3 = 0 then (wageofficelaw41_ReclaimTooMuch.l1 kj39 true t260 t263 t264 x11_1 t279 ji74) else (if 0 ≤ x17_3 then (if x17_3 < (t279.length : Int) then (if 0 ≤ (wrap64 (x17_3 - 1)) then (if (wrap64 (x17_3 - 1)) < (t260.length : Int) then (wageofficelaw41_ReclaimTooMuch.l1 kj39 ((wrap64 ((rd t279 (ji74)) - (rd t279 x17_3))) == (wrap64 ((rd t260 (wrap64 (x17_3 - 1))) - 0))) t260 t263 t264 x11_1 t279 ji74) else (none)) else (none)) else (none)) else (none))) else (none)) else (none)) else (none)) else (none)) = some r := by first | (rw [hji74] at H; exact H) | (simp only [hji74] at H ⊢; exact H)
                                have hji74w : (IntKind.i64.wrap (x17_3 + 1)) = ji74 := (i64_w _).trans hji74
                                by_cases c75 : 0 ≤ (ji74)
                                · rw [if_pos c75] at H
                                  have c75b0 : decide (0 ≤ (ji74)) = true := decide_eq_true c75
                                  clear c75
                                  by_cases c76 : (ji74) < (t279.length : Int)
                                  · rw [if_pos c76] at H
                                    have c76b0 : decide ((ji74) < (t279.length : Int)) = true := decide_eq_true c76
                                    clear c76
                                    by_cases c77 : (ji74) < (x11_1.length : Int)
                                    · rw [if_pos c77] at H
                                      have c77b0 : decide ((ji74) < (x11_1.length : Int)) = true := decide_eq_true c77
                                      clear c77
                                      by_cases c78 : (wrap64 ((rd t279 (ji74)) - (rd x11_1 (ji74)))) = t290
                                      · rw [if_pos c78] at H
                                        have c78b0 : ((wrap64 ((rd t279 (ji74)) - (rd x11_1 (ji74)))) == t290) = true := beq_iff_eq.mpr c78
                                        have c78b1 : ((wrap64 ((rd t279 (ji74)) - (rd x11_1 (ji74)))) != t290) = false := bne_eq_false_iff_eq.mpr c78
                                        clear c78
                                        by_cases c79 : x17_3 = 0
                                        · rw [if_pos c79] at H
                                          have c79b0 : (x17_3 == 0) = true := beq_iff_eq.mpr c79
                                          have c79b1 : (x17_3 != 0) = false := bne_eq_false_iff_eq.mpr c79
                                          clear c79
                                          have H' := Aside0.mk H
                                          clear H
                                          obtain ⟨Ao80, co80, eo80⟩ := Kd.R_slice HO_15.out
                                          subst eo80
                                          have p301 : 0 ≤ ((ji74) : Int) := of_decide_eq_true (by first | (with_reducible assumption) | assumption)
                                          have q301 : (ji74) < (t279.length : Int) := of_decide_eq_true (by first | (with_reducible assumption) | assumption)
                                          obtain ⟨ad301, e301, hx301_0⟩ := Kd.at_int (Kd.R_reads' HO_15.out).2.2 (ji74) p301 q301
                                          cases e301
                                          replace p301 := eq_true p301
                                          replace q301 := eq_true q301
                                          have p302 : 0 ≤ ((ji74) : Int) := of_decide_eq_true (by first | (with_reducible assumption) | assumption)
                                          have q302 : (ji74) < (x11_1.length : Int) := of_decide_eq_true (by first | (with_reducible assumption) | assumption)
                                          obtain ⟨ad302, e302, hx302_0⟩ := Kd.at_int (Kd.R_reads' HO_11.out).2.2 (ji74) p302 q302
                                          cases e302
                                          replace p302 := eq_true p302
                                          replace q302 := eq_true q302
                                          go_wp2
                                          repeat (go_quiet (fail); try go_wp2)
                                          go_roundg kj39
                                          case measure => have := HK1.out; have := HJ21.out; have := HK3.out; have := HJ39.out; omega
                                          case rel => exact ⟨(true), (ji74), (by first | rfl | (simp; done) | (simp [*]; done)), (by first | rfl | (simp; done) | (simp only [← hji74] <;> (first | rfl | (simp; done) | (rw [Int.tdiv_eq_ediv_of_nonneg (by unfold mx; split <;> omega)]))) | (simp [*]; done)), H', ⟨by have := HK1.out; have := HJ21.out; have := HK3.out; have := HJ39.out; omega⟩, ⟨by (with_reducible repeat (first | apply Kd.R_alloc | apply Kd.R_drewN | apply Kd.R_drew)); exact HO_8.out⟩, ⟨by (with_reducible repeat (first | apply Kd.R_alloc | apply Kd.R_drewN | apply Kd.R_drew)); exact HO_11.out⟩, ⟨by (with_reducible repeat (first | apply Kd.R_alloc | apply Kd.R_drewN | apply Kd.R_drew)); exact HO_15.out⟩, ⟨by repeat (first | (with_reducible first | exact HB.out | apply below_alloc | apply pw_below_drewN | apply below_drew1) | exact HB.out)⟩⟩
                                        · rw [if_neg c79] at H
                                          have c79b0 : (x17_3 == 0) = false := beq_eq_false_iff_ne.mpr c79
                                          have c79b1 : (x17_3 != 0) = true := bne_iff_ne.mpr c79
                                          by_cases c81 : 0 ≤ x17_3
                                          · rw [if_pos c81] at H
                                            have c81b0 : decide (0 ≤ x17_3) = true := decide_eq_true c81
                                            clear c81
                                            by_cases c82 : x17_3 < (t279.length : Int)
                                            · rw [if_pos c82] at H
                                              have c82b0 : decide (x17_3 < (t279.length : Int)) = true := decide_eq_true c82
                                              clear c82
                                              obtain ⟨ji83, hji83⟩ : ∃ j_ : Int, (wrap64 (x17_3 - 1)) = j_ := ⟨_, rfl⟩
                                              replace H : (if 0 ≤ (ji83) then (if (ji83) < (t260.length : Int) then (wageofficelaw41_ReclaimTooMuch.l1 kj39 ((wrap64 ((rd t279 (ji74)) - (rd t279 x17_3))) == (wrap64 ((rd t260 (ji83)) - 0))) t260 t263 t264 x11_1 t279 ji74) else (none)) else (none)) = some r := by first | (rw [hji83] at H; exact H) | (simp only [hji83] at H ⊢; exact H)
                                              have hji83w : (IntKind.i64.wrap (x17_3 - 1)) = ji83 := (i64_w _).trans hji83
                                              by_cases c84 : 0 ≤ (ji83)
                                              · rw [if_pos c84] at H
                                                have c84b0 : decide (0 ≤ (ji83)) = true := decide_eq_true c84
                                                clear c84
                                                by_cases c85 : (ji83) < (t260.length : Int)
                                                · rw [if_pos c85] at H
                                                  have c85b0 : decide ((ji83) < (t260.length : Int)) = true := decide_eq_true c85
                                                  clear c85
                                                  have H' := Aside0.mk H
                                                  clear H
                                                  obtain ⟨Ao86, co86, eo86⟩ := Kd.R_slice HO_15.out
                                                  subst eo86
                                                  have p301 : 0 ≤ ((ji74) : Int) := of_decide_eq_true (by first | (with_reducible assumption) | assumption)
                                                  have q301 : (ji74) < (t279.length : Int) := of_decide_eq_true (by first | (with_reducible assumption) | assumption)
                                                  obtain ⟨ad301, e301, hx301_0⟩ := Kd.at_int (Kd.R_reads' HO_15.out).2.2 (ji74) p301 q301
                                                  cases e301
                                                  replace p301 := eq_true p301
                                                  replace q301 := eq_true q301
                                                  have p302 : 0 ≤ ((ji74) : Int) := of_decide_eq_true (by first | (with_reducible assumption) | assumption)
                                                  have q302 : (ji74) < (x11_1.length : Int) := of_decide_eq_true (by first | (with_reducible assumption) | assumption)
                                                  obtain ⟨ad302, e302, hx302_0⟩ := Kd.at_int (Kd.R_reads' HO_11.out).2.2 (ji74) p302 q302
                                                  cases e302
                                                  replace p302 := eq_true p302
                                                  replace q302 := eq_true q302
                                                  have p303 : 0 ≤ ((ji74) : Int) := of_decide_eq_true (by first | (with_reducible assumption) | assumption)
                                                  have q303 : (ji74) < (t279.length : Int) := of_decide_eq_true (by first | (with_reducible assumption) | assumption)
                                                  obtain ⟨ad303, e303, hx303_0⟩ := Kd.at_int (Kd.R_reads' HO_15.out).2.2 (ji74) p303 q303
                                                  obtain rfl : ad301 = ad303 := (by injection e303)
                                                  replace p303 := eq_true p303
                                                  replace q303 := eq_true q303
                                                  have p304 : 0 ≤ (x17_3 : Int) := of_decide_eq_true (by first | (with_reducible assumption) | assumption)
                                                  have q304 : x17_3 < (t279.length : Int) := of_decide_eq_true (by first | (with_reducible assumption) | assumption)
                                                  obtain ⟨ad304, e304, hx304_0⟩ := Kd.at_int (Kd.R_reads' HO_15.out).2.2 x17_3 p304 q304
                                                  obtain rfl : ad301 = ad304 := (by injection e304)
                                                  replace p304 := eq_true p304
                                                  replace q304 := eq_true q304
                                                  have p305 : 0 ≤ ((ji83) : Int) := of_decide_eq_true (by first | (with_reducible assumption) | assumption)
                                                  have q305 : (ji83) < (t260.length : Int) := of_decide_eq_true (by first | (with_reducible assumption) | assumption)
                                                  obtain ⟨ad305, e305, hx305_0⟩ := Kd.at_int (Kd.R_reads' HO_8.out).2.2 (ji83) p305 q305
                                                  cases e305
                                                  replace p305 := eq_true p305
                                                  replace q305 := eq_true q305
                                                  go_wp2
                                                  repeat (go_quiet (fail); try go_wp2)
                                                  go_roundg kj39
                                                  case measure => have := HK1.out; have := HJ21.out; have := HK3.out; have := HJ39.out; omega
                                                  case rel => exact ⟨(((wrap64 ((rd t279 (ji74)) - (rd t279 x17_3))) == (wrap64 ((rd t260 (ji83)) - 0)))), (ji74), (by first | rfl | (simp; done) | (simp only [← hji74, ← hji83] <;> (first | rfl | (simp; done) | (rw [Int.tdiv_eq_ediv_of_nonneg (by unfold mx; split <;> omega)]))) | (simp [*]; done)), (by first | rfl | (simp; done) | (simp only [← hji74] <;> (first | rfl | (simp; done) | (rw [Int.tdiv_eq_ediv_of_nonneg (by unfold mx; split <;> omega)]))) | (simp [*]; done)), H', ⟨by have := HK1.out; have := HJ21.out; have := HK3.out; have := HJ39.out; omega⟩, ⟨by (with_reducible repeat (first | apply Kd.R_alloc | apply Kd.R_drewN | apply Kd.R_drew)); exact HO_8.out⟩, ⟨by (with_reducible repeat (first | apply Kd.R_alloc | apply Kd.R_drewN | apply Kd.R_drew)); exact HO_11.out⟩, ⟨by (with_reducible repeat (first | apply Kd.R_alloc | apply Kd.R_drewN | apply Kd.R_drew)); exact HO_15.out⟩, ⟨by repeat (first | (with_reducible first | exact HB.out | apply below_alloc | apply pw_below_drewN | apply below_drew1) | exact HB.out)⟩⟩
                                                · rw [if_neg c85] at H
                                                  exact absurd H (by simp)
                                              · rw [if_neg c84] at H
                                                exact absurd H (by simp)
                                            · rw [if_neg c82] at H
                                              exact absurd H (by simp)
                                          · rw [if_neg c81] at H
                                            exact absurd H (by simp)
                                      · rw [if_neg c78] at H
                                        exact absurd H (by simp)
                                    · rw [if_neg c77] at H
                                      exact absurd H (by simp)
                                  · rw [if_neg c76] at H
                                    exact absurd H (by simp)
                                · rw [if_neg c75] at H
                                  exact absurd H (by simp)
                              · rw [if_neg c73] at H
                                exact absurd H (by simp)
                            · replace c72 := Bool.eq_false_iff.mpr c72
                              subst c72
                              have H1 : (none) = some r := by rw [if_neg (show ¬ (false = true) by decide)] at H; exact H
                              clear H
                              have H := H1
                              clear H1
                              exact absurd H (by simp)
                    · rw [if_neg c37] at H
                      exact absurd H (by simp)
                  · rw [if_neg c36] at H
                    have c36b0 : decide (x17_3 ≤ (t260.length : Int)) = false := decide_eq_false c36
                    clear c36
                    obtain rfl := Option.some.inj H
                    go_wp2
                    repeat (go_quiet (fail); try go_wp2)
                    go_ret
                    exact ⟨by first | rfl | (simp [errW_none, errW_some] <;> rfl) | (simp [*, errW_none, errW_some] <;> rfl), by repeat (first | (with_reducible first | exact HB.out | apply below_alloc | apply pw_below_drewN | apply below_drew1) | exact HB.out)⟩

/-- THE ONE PURE STATEMENT of wageofficelaw41_ReclaimTooMuch: yours. -/
def wageofficelaw41_ReclaimTooMuch.Pure : Prop := ∀ (a0 : Int) (l1 : List Int) (a2 : Int), (Lit.int .i64 a0).wf = true → l1.length ≤ maxLen → l1.length * 8 ≤ 140737488351232 → (∀ x ∈ l1, (Lit.int .i64 x).wf = true) → (Lit.int .i64 a2).wf = true → ∃ k, wageofficelaw41_ReclaimTooMuch.f k a0 l1 a2 = some true
theorem wageofficelaw41_ReclaimTooMuch.walk (P : wageofficelaw41_ReclaimTooMuch.Pure) (a0 : Int) (a1 : Option Addr) (len1 cap1 : Nat) (z1 : List Int) (a2 : Int) (w : World) (w0 : (Lit.int .i64 a0).wf = true) (w1 : (a1 = none ∧ len1 = 0 ∧ cap1 = 0 ∧ z1 = []) ∨ ∃ x, a1 = some x ∧ len1 ≤ cap1 ∧ cap1 ≤ maxLen ∧ z1.length = cap1 ∧ (∀ i, i < z1.length → w.cell? (x.add i) = some (.int .i64 (z1.getD i 0))) ∧ ∀ n ∈ z1, (Lit.int .i64 n).wf = true) (y1 : len1 * 8 ≤ 140737488351232) (w2 : (Lit.int .i64 a2).wf = true) :
    Calls Try.prog 6 #[.int .i64 a0, .slice a1 len1 cap1, .int .i64 a2] w fun e w' => e = .returned (.bool true) ∧ Below w.heap.size w w' := by
  obtain ⟨l1, rfl, hr1, hm1, hw1, hc1⟩ := ReadsInt.ofRowC w1
  obtain ⟨k, h⟩ := P a0 l1 a2 w0 hm1 y1 hw1 w2
  refine (wageofficelaw41_ReclaimTooMuch.calls k a0 _ _ l1 a2 true w (Kd.C_of_reads (d := (0 : Int)) (h1 := fun _ => rfl) hr1) hc1 h).mono ?_
  rintro e w' ⟨rfl, hd⟩
  exact ⟨rfl, hd⟩

end Go.Proofs.Ytpgghakjbghagaa.Hp
