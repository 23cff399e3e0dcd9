/- Written by a program of this session (hprint.py) and by hand: contracts of the functions that the laws reach, and the row of a law. -/
import Derived.Test.YtpgghakjbghagaaHpx0
import Derived.Test.YtpgghakjbghagaaHpx3
import Derived.Test.YtpgghakjbghagaaHpx4
import Derived.Test.YtpgghakjbghagaaHpx5
namespace Go.Proofs.Ytpgghakjbghagaa.Hp
open Go.RowKit Go.Proofs.Ytpgghakjbghagaa.HWords Go.Proofs.YtpgghakjbghagaaW.PrintWords Go.Proofs.YtpgghakjbghagaaW.PrintLast Go.Proofs.YtpgghakjbghagaaW.PrintMore
attribute [local go_sem] max2_int min2_int max_two min_two max_three min_three max_four min_four   -- for this text's walks alone
set_option linter.unusedVariables false
set_option linter.unusedSimpArgs false

/-! ### wageofficeref41_Schedule: function 13 -/
mutual
def wageofficeref41_Schedule.j0 : Nat → Int → Int → List Int → Bool → Option ((List (S41)) × Int × Int)
  | 0, _, _, _, _ => none
  | k + 1, x0, x1, x2, x23 => if x23 = true then (some (([] : List (S41)), 0, 1)) else (if (x2.length : Int) > 600 then (wageofficeref41_Schedule.j1 k x0 x1 x2 true) else (wageofficeref41_Schedule.j1 k x0 x1 x2 (decide ((x2.length : Int) > (wrap64 (1200 - x1))))))
def wageofficeref41_Schedule.j1 : Nat → Int → Int → List Int → Bool → Option ((List (S41)) × Int × Int)
  | 0, _, _, _, _ => none
  | k + 1, x0, x1, x2, x33 => if x33 = true then (some (([] : List (S41)), 0, 2)) else ((wageofficeref41_Big.f x0).bind fun t195 => (wageofficeref41_Schedule.l0 k x0 x1 x2 t195 0))
def wageofficeref41_Schedule.l0 : Nat → Int → Int → List Int → Bool → Int → Option ((List (S41)) × Int × Int)
  | 0, _, _, _, _, _ => none
  | k + 1, x0, x1, x2, x9, x10 => if x10 < (x2.length : Int) then (if x9 = true then (wageofficeref41_Schedule.l0 k x0 x1 x2 true (wrap64 (x10 + 1))) else (if 0 ≤ x10 then ((wageofficeref41_Big.f (rd x2 x10)).bind fun t197 => (wageofficeref41_Schedule.l0 k x0 x1 x2 t197 (wrap64 (x10 + 1)))) else (none))) else (if x9 = true then (some (([] : List (S41)), 0, 3)) else (wageofficeref41_Schedule.l1 k x0 x1 x2 ([] : List (S41)) 0))
def wageofficeref41_Schedule.l1 : Nat → Int → Int → List Int → List (S41) → Int → Option ((List (S41)) × Int × Int)
  | 0, _, _, _, _, _ => none
  | k + 1, x0, x1, x2, x11, x12 => if x12 < (x2.length : Int) then (if 0 ≤ x12 then (if (rd x2 x12) > 0 then (wageofficeref41_Schedule.j4 k x0 x1 x2 x11 x12 (mn x0 (wrap64 (Int.tdiv (rd x2 x12) 4)))) else (wageofficeref41_Schedule.j4 k x0 x1 x2 x11 x12 0)) else (none)) else (some (x11, x0, 0))
def wageofficeref41_Schedule.j4 : Nat → Int → Int → List Int → List (S41) → Int → Int → Option ((List (S41)) × Int × Int)
  | 0, _, _, _, _, _, _ => none
  | k + 1, x0, x1, x2, x11, x12, x13 => if x13 > 0 then (if x11.length < 8796093022208 then (wageofficeref41_Schedule.l1 k (wrap64 (x0 - x13)) x1 x2 (x11 ++ [(⟨wrap64 (x1 + x12), x13⟩ : S41)]) (wrap64 (x12 + 1))) else (none)) else (wageofficeref41_Schedule.l1 k x0 x1 x2 x11 (wrap64 (x12 + 1)))
end
def wageofficeref41_Schedule.f (k : Nat) (a0 : Int) (a1 : Int) (l2 : List Int) : Option ((List (S41)) × Int × Int) := if a0 < 0 then (wageofficeref41_Schedule.j0 k a0 a1 l2 true) else (if a1 < 0 then (wageofficeref41_Schedule.j0 k a0 a1 l2 true) else (wageofficeref41_Schedule.j0 k a0 a1 l2 (decide (a1 > 1199))))
theorem wageofficeref41_Schedule.mono_l : ∀ k, (∀ y0 y1 y2 y3, LeO (wageofficeref41_Schedule.j0 k y0 y1 y2 y3) (wageofficeref41_Schedule.j0 (k + 1) y0 y1 y2 y3)) ∧ (∀ y0 y1 y2 y3, LeO (wageofficeref41_Schedule.j1 k y0 y1 y2 y3) (wageofficeref41_Schedule.j1 (k + 1) y0 y1 y2 y3)) ∧ (∀ y0 y1 y2 y3 y4, LeO (wageofficeref41_Schedule.l0 k y0 y1 y2 y3 y4) (wageofficeref41_Schedule.l0 (k + 1) y0 y1 y2 y3 y4)) ∧ (∀ y0 y1 y2 y3 y4, LeO (wageofficeref41_Schedule.l1 k y0 y1 y2 y3 y4) (wageofficeref41_Schedule.l1 (k + 1) y0 y1 y2 y3 y4)) ∧ (∀ y0 y1 y2 y3 y4 y5, LeO (wageofficeref41_Schedule.j4 k y0 y1 y2 y3 y4 y5) (wageofficeref41_Schedule.j4 (k + 1) y0 y1 y2 y3 y4 y5))
  | 0 => ⟨fun _ _ _ _ r h => by simp [wageofficeref41_Schedule.j0] at h, fun _ _ _ _ r h => by simp [wageofficeref41_Schedule.j1] at h, fun _ _ _ _ _ r h => by simp [wageofficeref41_Schedule.l0] at h, fun _ _ _ _ _ r h => by simp [wageofficeref41_Schedule.l1] at h, fun _ _ _ _ _ _ r h => by simp [wageofficeref41_Schedule.j4] at h⟩
  | k + 1 => by
    obtain ⟨ih0, ih1, ih2, ih3, ih4⟩ := wageofficeref41_Schedule.mono_l k
    refine ⟨?_, ?_, ?_, ?_, ?_⟩
    · intro y0 y1 y2 y3
      unfold wageofficeref41_Schedule.j0
      repeat' first
      | (with_reducible exact ih0 _ _ _ _)
      | (with_reducible exact ih1 _ _ _ _)
      | (with_reducible exact ih2 _ _ _ _ _)
      | (with_reducible exact ih3 _ _ _ _ _)
      | (with_reducible exact ih4 _ _ _ _ _ _)
      | (with_reducible exact LeO.refl _)
      | (with_reducible exact LeO.none _)
      | (with_reducible refine LeO.ite ?_ ?_)
      | (with_reducible refine LeO.bind ?_ (fun _ => ?_))
      | exact ih0 _ _ _ _
      | exact ih1 _ _ _ _
      | exact ih2 _ _ _ _ _
      | exact ih3 _ _ _ _ _
      | exact ih4 _ _ _ _ _ _
      | exact LeO.none _
      | refine LeO.ite ?_ ?_
      | refine LeO.bind ?_ (fun _ => ?_)
    · intro y0 y1 y2 y3
      unfold wageofficeref41_Schedule.j1
      repeat' first
      | (with_reducible exact ih0 _ _ _ _)
      | (with_reducible exact ih1 _ _ _ _)
      | (with_reducible exact ih2 _ _ _ _ _)
      | (with_reducible exact ih3 _ _ _ _ _)
      | (with_reducible exact ih4 _ _ _ _ _ _)
      | (with_reducible exact LeO.refl _)
      | (with_reducible exact LeO.none _)
      | (with_reducible refine LeO.ite ?_ ?_)
      | (with_reducible refine LeO.bind ?_ (fun _ => ?_))
      | exact ih0 _ _ _ _
      | exact ih1 _ _ _ _
      | exact ih2 _ _ _ _ _
      | exact ih3 _ _ _ _ _
      | exact ih4 _ _ _ _ _ _
      | exact LeO.none _
      | refine LeO.ite ?_ ?_
      | refine LeO.bind ?_ (fun _ => ?_)
    · intro y0 y1 y2 y3 y4
      unfold wageofficeref41_Schedule.l0
      repeat' first
      | (with_reducible exact ih0 _ _ _ _)
      | (with_reducible exact ih1 _ _ _ _)
      | (with_reducible exact ih2 _ _ _ _ _)
      | (with_reducible exact ih3 _ _ _ _ _)
      | (with_reducible exact ih4 _ _ _ _ _ _)
      | (with_reducible exact LeO.refl _)
      | (with_reducible exact LeO.none _)
      | (with_reducible refine LeO.ite ?_ ?_)
      | (with_reducible refine LeO.bind ?_ (fun _ => ?_))
      | exact ih0 _ _ _ _
      | exact ih1 _ _ _ _
      | exact ih2 _ _ _ _ _
      | exact ih3 _ _ _ _ _
      | exact ih4 _ _ _ _ _ _
      | exact LeO.none _
      | refine LeO.ite ?_ ?_
      | refine LeO.bind ?_ (fun _ => ?_)
    · intro y0 y1 y2 y3 y4
      unfold wageofficeref41_Schedule.l1
      repeat' first
      | (with_reducible exact ih0 _ _ _ _)
      | (with_reducible exact ih1 _ _ _ _)
      | (with_reducible exact ih2 _ _ _ _ _)
      | (with_reducible exact ih3 _ _ _ _ _)
      | (with_reducible exact ih4 _ _ _ _ _ _)
      | (with_reducible exact LeO.refl _)
      | (with_reducible exact LeO.none _)
      | (with_reducible refine LeO.ite ?_ ?_)
      | (with_reducible refine LeO.bind ?_ (fun _ => ?_))
      | exact ih0 _ _ _ _
      | exact ih1 _ _ _ _
      | exact ih2 _ _ _ _ _
      | exact ih3 _ _ _ _ _
      | exact ih4 _ _ _ _ _ _
      | exact LeO.none _
      | refine LeO.ite ?_ ?_
      | refine LeO.bind ?_ (fun _ => ?_)
    · intro y0 y1 y2 y3 y4 y5
      unfold wageofficeref41_Schedule.j4
      repeat' first
      | (with_reducible exact ih0 _ _ _ _)
      | (with_reducible exact ih1 _ _ _ _)
      | (with_reducible exact ih2 _ _ _ _ _)
      | (with_reducible exact ih3 _ _ _ _ _)
      | (with_reducible exact ih4 _ _ _ _ _ _)
      | (with_reducible exact LeO.refl _)
      | (with_reducible exact LeO.none _)
      | (with_reducible refine LeO.ite ?_ ?_)
      | (with_reducible refine LeO.bind ?_ (fun _ => ?_))
      | exact ih0 _ _ _ _
      | exact ih1 _ _ _ _
      | exact ih2 _ _ _ _ _
      | exact ih3 _ _ _ _ _
      | exact ih4 _ _ _ _ _ _
      | exact LeO.none _
      | refine LeO.ite ?_ ?_
      | refine LeO.bind ?_ (fun _ => ?_)
theorem wageofficeref41_Schedule.mono : ∀ a0 a1 a2 k, LeO (wageofficeref41_Schedule.f k a0 a1 a2) (wageofficeref41_Schedule.f (k + 1) a0 a1 a2) := by
  intro a0 a1 a2 k
  obtain ⟨ih0, ih1, ih2, ih3, ih4⟩ := wageofficeref41_Schedule.mono_l k
  unfold wageofficeref41_Schedule.f
  repeat' first
      | (with_reducible exact ih0 _ _ _ _)
      | (with_reducible exact ih1 _ _ _ _)
      | (with_reducible exact ih2 _ _ _ _ _)
      | (with_reducible exact ih3 _ _ _ _ _)
      | (with_reducible exact ih4 _ _ _ _ _ _)
      | (with_reducible exact LeO.refl _)
      | (with_reducible exact LeO.none _)
      | (with_reducible refine LeO.ite ?_ ?_)
      | (with_reducible refine LeO.bind ?_ (fun _ => ?_))
      | exact ih0 _ _ _ _
      | exact ih1 _ _ _ _
      | exact ih2 _ _ _ _ _
      | exact ih3 _ _ _ _ _
      | exact ih4 _ _ _ _ _ _
      | exact LeO.none _
      | refine LeO.ite ?_ ?_
      | refine LeO.bind ?_ (fun _ => ?_)
set_option maxHeartbeats 8000000 in
set_option maxRecDepth 100000 in
theorem wageofficeref41_Schedule.calls (k : Nat) (a0 : Int) (a1 : Int) (A2 : Option Addr) (c2 : Nat) (l2 : List Int) (r1 : List (S41)) (r2 : Int) (r3 : Int) (w : World) (hr2 : Kd.C (Kd.int .i64) w A2 l2.length l2) (hc2 : l2.length ≤ c2) (h : wageofficeref41_Schedule.f k a0 a1 l2 = some (r1, r2, r3)) :
    Calls Try.prog 13 #[.int .i64 a0, .int .i64 a1, .slice A2 l2.length c2] w fun e w' => ∃ v0_ : Value, e = .returned (.tuple #[v0_, .int .i64 r2, .int .i64 r3]) ∧ Kd.R k41 41 w' w.heap.size (fun _ => True) v0_ r1 ∧ Below w.heap.size w w' := by
  have hu41 := Try.underlying41
  have HR2 := Aside0.mk hr2
  have HC2 := Aside0.mk hc2
  clear hr2 hc2
  have HB := Aside0.mk (Below.refl w.heap.size w)
  have H : (if a0 < 0 then (wageofficeref41_Schedule.j0 k a0 a1 l2 true) else (if a1 < 0 then (wageofficeref41_Schedule.j0 k a0 a1 l2 true) else (wageofficeref41_Schedule.j0 k a0 a1 l2 (decide (a1 > 1199))))) = some (r1, r2, r3) := h
  clear h
  have HC4 := Aside0.mk H
  clear H
  go_enter Try.func13, Try.ntmps13
  go_upto_region 1 with (fail)
  go_cut [23] (fun v23 wc => ∃ (kq : Nat) (x23_3 : Bool), v23 = .bool x23_3 ∧ Aside0 (wageofficeref41_Schedule.j0 kq a0 a1 l2 x23_3 = some (r1, r2, r3)) ∧ Aside0 (kq ≤ k) ∧ Aside0 (Below w.heap.size w wc))
  case first =>
    have H := HC4.out
    clear HC4
    by_cases c5 : a0 < 0
    · rw [if_pos c5] at H
      have c5b0 : decide (a0 < 0) = true := decide_eq_true c5
      clear c5
      (first | rw [c5b0] | (simp only [i64_w, i32_w]; rw [c5b0]) | skip)
      have H' := Aside0.mk H
      clear H
      go_wp2
      go_meet
      case rel => exact ⟨_, (true), (by first | rfl | (simp; done) | (simp [*]; done)), H', ⟨by first | omega | exact Nat.le_refl _⟩, ⟨by repeat (first | (with_reducible first | exact HB.out | apply below_alloc | apply pw_below_drewN | apply below_drew1) | exact HB.out)⟩⟩
    · rw [if_neg c5] at H
      have c5b0 : decide (a0 < 0) = false := decide_eq_false c5
      clear c5
      (first | rw [c5b0] | (simp only [i64_w, i32_w]; rw [c5b0]) | skip)
      by_cases c6 : a1 < 0
      · rw [if_pos c6] at H
        have c6b0 : decide (a1 < 0) = true := decide_eq_true c6
        clear c6
        have H' := Aside0.mk H
        clear H
        go_wp2
        go_meet
        case rel => exact ⟨_, (true), (by first | rfl | (simp; done) | (simp [*]; done)), H', ⟨by first | omega | exact Nat.le_refl _⟩, ⟨by repeat (first | (with_reducible first | exact HB.out | apply below_alloc | apply pw_below_drewN | apply below_drew1) | exact HB.out)⟩⟩
      · rw [if_neg c6] at H
        have c6b0 : decide (a1 < 0) = false := decide_eq_false c6
        clear c6
        have H' := Aside0.mk H
        clear H
        go_wp2
        go_meet
        case rel => exact ⟨_, (decide (a1 > 1199)), (by first | rfl | (simp; done) | (simp [*]; done)), H', ⟨by first | omega | exact Nat.le_refl _⟩, ⟨by repeat (first | (with_reducible first | exact HB.out | apply below_alloc | apply pw_below_drewN | apply below_drew1) | exact HB.out)⟩⟩
  case rest =>
    clear HC4
    try clear c1
    try clear c2
    try clear p2
    try clear c5
    try clear c5b0
    try clear c6
    try clear c6b0
    obtain ⟨kq, x23_3, rfl, HA, HJ3, HB⟩ := hcut
    cases kq with
    | zero => exact absurd HA.out (by simp [wageofficeref41_Schedule.j0])
    | succ kj3 =>
      have H := HA.out
      clear HA
      simp only [wageofficeref41_Schedule.j0] at H
      by_cases c7 : x23_3 = true
      · subst c7
        have H1 : (some (([] : List (S41)), 0, 1)) = some (r1, r2, r3) := by rw [if_pos rfl] at H; exact H
        clear H
        have H := H1
        clear H1
        simp only [Option.some.injEq, Prod.mk.injEq] at H
        obtain ⟨rfl, rfl, rfl⟩ := H
        go_wp2
        go_ret3
        exact ⟨_, by first | rfl | (simp [errW_none, errW_some] <;> rfl) | (simp [*, errW_none, errW_some] <;> rfl), by first | exact Kd.R_nil _ _ _ _ _ | exact Kd.N_nil _ _ _ _ _ | exact Kd.V_nil _ _ _ _ _ | exact Kd.Q_nil _ _ _ _ _ | exact Kd.S_nil _ _ _ _ _, by repeat (first | (with_reducible first | exact HB.out | apply below_alloc | apply pw_below_drewN | apply below_drew1) | exact HB.out)⟩
      · replace c7 := Bool.eq_false_iff.mpr c7
        subst c7
        have H1 : (if (l2.length : Int) > 600 then (wageofficeref41_Schedule.j1 kj3 a0 a1 l2 true) else (wageofficeref41_Schedule.j1 kj3 a0 a1 l2 (decide ((l2.length : Int) > (wrap64 (1200 - a1)))))) = some (r1, r2, r3) := by rw [if_neg (show ¬ (false = true) by decide)] at H; exact H
        clear H
        have H := H1
        clear H1
        have HC8 := Aside0.mk H
        clear H
        go_upto_region 3 with (fail)
        go_cut [33] (fun v33 wc => ∃ (kq : Nat) (x33_7 : Bool), v33 = .bool x33_7 ∧ Aside0 (wageofficeref41_Schedule.j1 kq a0 a1 l2 x33_7 = some (r1, r2, r3)) ∧ Aside0 (kq ≤ kj3) ∧ Aside0 (Below w.heap.size w wc))
        case first =>
          have H := HC8.out
          clear HC8
          by_cases c9 : (l2.length : Int) > 600
          · rw [if_pos c9] at H
            have c9b0 : decide (600 < (l2.length : Int)) = true := decide_eq_true c9
            have c9b1 : decide (600 < l2.length) = true := decide_eq_true (by omega)
            clear c9
            (first | rw [c9b0] | (simp only [i64_w, i32_w]; rw [c9b0]) | skip)
            have H' := Aside0.mk H
            clear H
            go_wp2
            go_meet
            case rel => exact ⟨_, (true), (by first | rfl | (simp; done) | (simp [*]; done)), H', ⟨by have := HJ3.out; first | omega | exact Nat.le_refl _⟩, ⟨by repeat (first | (with_reducible first | exact HB.out | apply below_alloc | apply pw_below_drewN | apply below_drew1) | exact HB.out)⟩⟩
          · rw [if_neg c9] at H
            have c9b0 : decide (600 < (l2.length : Int)) = false := decide_eq_false c9
            have c9b1 : decide (600 < l2.length) = false := decide_eq_false (by omega)
            clear c9
            (first | rw [c9b0] | (simp only [i64_w, i32_w]; rw [c9b0]) | skip)
            have H' := Aside0.mk H
            clear H
            go_wp2
            go_meet
            case rel => exact ⟨_, (decide ((l2.length : Int) > (wrap64 (1200 - a1)))), (by first | rfl | (simp; done) | (simp [*]; done)), H', ⟨by have := HJ3.out; first | omega | exact Nat.le_refl _⟩, ⟨by repeat (first | (with_reducible first | exact HB.out | apply below_alloc | apply pw_below_drewN | apply below_drew1) | exact HB.out)⟩⟩
        case rest =>
          clear HC8
          try clear c1
          try clear c2
          try clear p2
          try clear c5
          try clear c5b0
          try clear c6
          try clear c6b0
          try clear p6
          try clear c7
          try clear c9
          try clear c9b0
          try clear c9b1
          try clear p2
          obtain ⟨kq, x33_7, rfl, HA, HJ7, HB⟩ := hcut
          cases kq with
          | zero => exact absurd HA.out (by simp [wageofficeref41_Schedule.j1])
          | succ kj7 =>
            have H := HA.out
            clear HA
            simp only [wageofficeref41_Schedule.j1] at H
            by_cases c10 : x33_7 = true
            · subst c10
              have H1 : (some (([] : List (S41)), 0, 2)) = some (r1, r2, r3) := by rw [if_pos rfl] at H; exact H
              clear H
              have H := H1
              clear H1
              simp only [Option.some.injEq, Prod.mk.injEq] at H
              obtain ⟨rfl, rfl, rfl⟩ := H
              go_wp2
              go_ret3
              exact ⟨_, by first | rfl | (simp [errW_none, errW_some] <;> rfl) | (simp [*, errW_none, errW_some] <;> rfl), by first | exact Kd.R_nil _ _ _ _ _ | exact Kd.N_nil _ _ _ _ _ | exact Kd.V_nil _ _ _ _ _ | exact Kd.Q_nil _ _ _ _ _ | exact Kd.S_nil _ _ _ _ _, by repeat (first | (with_reducible first | exact HB.out | apply below_alloc | apply pw_below_drewN | apply below_drew1) | exact HB.out)⟩
            · replace c10 := Bool.eq_false_iff.mpr c10
              subst c10
              have H1 : ((wageofficeref41_Big.f a0).bind fun t195 => (wageofficeref41_Schedule.l0 kj7 a0 a1 l2 t195 0)) = some (r1, r2, r3) := by rw [if_neg (show ¬ (false = true) by decide)] at H; exact H
              clear H
              have H := H1
              clear H1
              replace H := Option.bind_eq_some_iff.mp H
              obtain ⟨t195, A110, H⟩ := H
              replace H : (wageofficeref41_Schedule.l0 kj7 a0 a1 l2 t195 0) = some (r1, r2, r3) := H
              have A11 := Aside0.mk A110
              clear A110
              have H' := Aside0.mk H
              clear H
              go_wp2_with (first | ((with_reducible refine gate_callee (f := 21) rfl ?_); refine goesL_ (some 35) rfl rfl Try.func21 (by kernel_rfl) rfl #[.int .i64 a0] rfl (by (try simp only [List.map_toArray, List.map_cons, List.map_nil]); first | done | rfl | (simp only [List.length_drop, List.length_take]; rfl)) ?_; (with_reducible refine (wageofficeref41_Big.calls a0 t195 _ A11.out).mono ?_); rintro e w' ⟨rfl, ⟨nd, rfl⟩⟩; refine ⟨_, rfl, ?_⟩))
              go_loopg [9, 10] kj7 (fun kq v9 v10 w' => ∃ (x9_3 : Bool) (x10_3 : Int), v9 = .bool x9_3 ∧ v10 = .int .i64 x10_3 ∧ Aside0 (wageofficeref41_Schedule.l0 kq a0 a1 l2 x9_3 x10_3 = some (r1, r2, r3)) ∧ Aside0 (kq ≤ kj7) ∧ Aside0 (Below w.heap.size w w'))
              case atStart => exact ⟨(t195), (0), (by first | rfl | (simp; done) | (simp [*]; done)), (by first | rfl | (simp; done) | (simp [*]; done)), H', ⟨Nat.le_refl _⟩, ⟨by repeat (first | (with_reducible first | exact HB.out | apply below_alloc | apply pw_below_drewN | apply below_drew1) | exact HB.out)⟩⟩
              case round =>
                clear H'
                try clear c1
                try clear c2
                try clear p2
                try clear c5
                try clear c5b0
                try clear c6
                try clear c6b0
                try clear p6
                try clear c7
                try clear c9
                try clear c9b0
                try clear c9b1
                try clear c10
                try clear p2
                try clear p6
                obtain ⟨x9_3, x10_3, rfl, rfl, HA, HK3, HB⟩ := hrel
                cases gk with
                | zero => exact absurd HA.out (by simp [wageofficeref41_Schedule.l0])
                | succ k3 =>
                  have H := HA.out
                  clear HA
                  simp only [wageofficeref41_Schedule.l0] at H
                  by_cases c12 : x10_3 < (l2.length : Int)
                  · rw [if_pos c12] at H
                    have c12b0 : decide (x10_3 < (l2.length : Int)) = true := decide_eq_true c12
                    clear c12
                    by_cases c13 : x9_3 = true
                    · subst c13
                      have H1 : (wageofficeref41_Schedule.l0 k3 a0 a1 l2 true (wrap64 (x10_3 + 1))) = some (r1, r2, r3) := by rw [if_pos rfl] at H; exact H
                      clear H
                      have H := H1
                      clear H1
                      have H' := Aside0.mk H
                      clear H
                      go_wp2
                      go_roundg k3
                      case measure => have := HJ3.out; have := HJ7.out; have := HK3.out; omega
                      case rel => exact ⟨(true), (wrap64 (x10_3 + 1)), (by first | rfl | (simp; done) | (simp [*]; done)), (by first | rfl | (simp; done) | (simp [*]; done)), H', ⟨by have := HJ3.out; have := HJ7.out; have := HK3.out; omega⟩, ⟨by repeat (first | (with_reducible first | exact HB.out | apply below_alloc | apply pw_below_drewN | apply below_drew1) | exact HB.out)⟩⟩
                    · replace c13 := Bool.eq_false_iff.mpr c13
                      subst c13
                      have H1 : (if 0 ≤ x10_3 then ((wageofficeref41_Big.f (rd l2 x10_3)).bind fun t197 => (wageofficeref41_Schedule.l0 k3 a0 a1 l2 t197 (wrap64 (x10_3 + 1)))) else (none)) = some (r1, r2, r3) := by rw [if_neg (show ¬ (false = true) by decide)] at H; exact H
                      clear H
                      have H := H1
                      clear H1
                      by_cases c14 : 0 ≤ x10_3
                      · rw [if_pos c14] at H
                        have c14b0 : decide (0 ≤ x10_3) = true := decide_eq_true c14
                        clear c14
                        replace H := Option.bind_eq_some_iff.mp H
                        obtain ⟨t197, A150, H⟩ := H
                        replace H : (wageofficeref41_Schedule.l0 k3 a0 a1 l2 t197 (wrap64 (x10_3 + 1))) = some (r1, r2, r3) := H
                        have A15 := Aside0.mk A150
                        clear A150
                        have H' := Aside0.mk H
                        clear H
                        have p196 : 0 ≤ (x10_3 : Int) := of_decide_eq_true (by first | (with_reducible assumption) | assumption)
                        have q196 : x10_3 < (l2.length : Int) := of_decide_eq_true (by first | (with_reducible assumption) | assumption)
                        obtain ⟨ad196, e196, hx196_0⟩ := Kd.at_int HR2.out x10_3 p196 q196
                        cases e196
                        replace hx196_0 := (HB.out.cell (World.block_lt_of_cell? w _ hx196_0)).trans hx196_0
                        replace p196 := eq_true p196
                        replace q196 := eq_true q196
                        go_wp2_with (first | (go_at_call 21; (with_reducible refine (wageofficeref41_Big.calls (rd l2 x10_3) t197 _ A15.out).mono ?_); rintro e w' ⟨rfl, ⟨nd, rfl⟩⟩))
                        go_roundg k3
                        case measure => have := HJ3.out; have := HJ7.out; have := HK3.out; omega
                        case rel => exact ⟨(t197), (wrap64 (x10_3 + 1)), (by first | rfl | (simp; done) | (simp [*]; done)), (by first | rfl | (simp; done) | (simp [*]; done)), H', ⟨by have := HJ3.out; have := HJ7.out; have := HK3.out; omega⟩, ⟨by repeat (first | (with_reducible first | exact HB.out | apply below_alloc | apply pw_below_drewN | apply below_drew1) | exact HB.out)⟩⟩
                      · rw [if_neg c14] at H
                        exact absurd H (by simp)
                  · rw [if_neg c12] at H
                    have c12b0 : decide (x10_3 < (l2.length : Int)) = false := decide_eq_false c12
                    clear c12
                    by_cases c16 : x9_3 = true
                    · subst c16
                      have H1 : (some (([] : List (S41)), 0, 3)) = some (r1, r2, r3) := by rw [if_pos rfl] at H; exact H
                      clear H
                      have H := H1
                      clear H1
                      simp only [Option.some.injEq, Prod.mk.injEq] at H
                      obtain ⟨rfl, rfl, rfl⟩ := H
                      go_wp2
                      go_ret3
                      exact ⟨_, by first | rfl | (simp [errW_none, errW_some] <;> rfl) | (simp [*, errW_none, errW_some] <;> rfl), by first | exact Kd.R_nil _ _ _ _ _ | exact Kd.N_nil _ _ _ _ _ | exact Kd.V_nil _ _ _ _ _ | exact Kd.Q_nil _ _ _ _ _ | exact Kd.S_nil _ _ _ _ _, by repeat (first | (with_reducible first | exact HB.out | apply below_alloc | apply pw_below_drewN | apply below_drew1) | exact HB.out)⟩
                    · replace c16 := Bool.eq_false_iff.mpr c16
                      subst c16
                      have H1 : (wageofficeref41_Schedule.l1 k3 a0 a1 l2 ([] : List (S41)) 0) = some (r1, r2, r3) := by rw [if_neg (show ¬ (false = true) by decide)] at H; exact H
                      clear H
                      have H := H1
                      clear H1
                      have H' := Aside0.mk H
                      clear H
                      go_wp2
                      go_loopg [0, 11, 12] k3 (fun kq v0 v11 v12 w' => ∃ (x0_4 : Int) (x11_4 : List (S41)) (x12_4 : Int), v0 = .int .i64 x0_4 ∧ v12 = .int .i64 x12_4 ∧ Aside0 (wageofficeref41_Schedule.l1 kq x0_4 a1 l2 x11_4 x12_4 = some (r1, r2, r3)) ∧ Aside0 (kq ≤ k3) ∧ Aside0 (Kd.R k41 41 w' w.heap.size (fun _ => True) v11 x11_4) ∧ Aside0 (Below w.heap.size w w'))
                      case atStart => exact ⟨(a0), (([] : List (S41))), (0), (by first | rfl | (simp; done) | (simp [*]; done)), (by first | rfl | (simp; done) | (simp [*]; done)), H', ⟨Nat.le_refl _⟩, ⟨by first | exact Kd.R_nil _ _ _ _ _ | exact Kd.N_nil _ _ _ _ _ | exact Kd.V_nil _ _ _ _ _ | exact Kd.Q_nil _ _ _ _ _ | exact Kd.S_nil _ _ _ _ _⟩, ⟨by repeat (first | (with_reducible first | exact HB.out | apply below_alloc | apply pw_below_drewN | apply below_drew1) | exact HB.out)⟩⟩
                      case round =>
                        clear H'
                        try clear c1
                        try clear p1
                        try clear q1
                        try clear hx1
                        try clear c2
                        try clear p2
                        try clear c5
                        try clear c5b0
                        try clear c6
                        try clear c6b0
                        try clear p6
                        try clear c7
                        try clear c9
                        try clear c9b0
                        try clear c9b1
                        try clear c10
                        try clear c12
                        try clear c12b0
                        try clear c13
                        try clear c14
                        try clear c14b0
                        try clear c16
                        try clear hx196_0
                        try clear p196
                        try clear p2
                        try clear p6
                        try clear q196
                        obtain ⟨x0_4, x11_4, x12_4, rfl, rfl, HA, HK4, HO_11, HB⟩ := hrel
                        cases gk with
                        | zero => exact absurd HA.out (by simp [wageofficeref41_Schedule.l1])
                        | succ k4 =>
                          have H := HA.out
                          clear HA
                          simp only [wageofficeref41_Schedule.l1] at H
                          by_cases c17 : x12_4 < (l2.length : Int)
                          · rw [if_pos c17] at H
                            have c17b0 : decide (x12_4 < (l2.length : Int)) = true := decide_eq_true c17
                            clear c17
                            by_cases c18 : 0 ≤ x12_4
                            · rw [if_pos c18] at H
                              have c18b0 : decide (0 ≤ x12_4) = true := decide_eq_true c18
                              clear c18
                              have HC19 := Aside0.mk H
                              clear H
                              have p198 : 0 ≤ (x12_4 : Int) := of_decide_eq_true (by first | (with_reducible assumption) | assumption)
                              have q198 : x12_4 < (l2.length : Int) := of_decide_eq_true (by first | (with_reducible assumption) | assumption)
                              obtain ⟨ad198, e198, hx198_0⟩ := Kd.at_int HR2.out x12_4 p198 q198
                              cases e198
                              replace hx198_0 := (HB.out.cell (World.block_lt_of_cell? w _ hx198_0)).trans hx198_0
                              replace p198 := eq_true p198
                              replace q198 := eq_true q198
                              go_upto_if 61 with (fail)
                              go_cut [13] (fun v13 wc => ∃ (kq : Nat) (x13_18 : Int), v13 = .int .i64 x13_18 ∧ Aside0 (wageofficeref41_Schedule.j4 kq x0_4 a1 l2 x11_4 x12_4 x13_18 = some (r1, r2, r3)) ∧ Aside0 (kq ≤ k4) ∧ Aside0 (Kd.R k41 41 wc w.heap.size (fun _ => True) u11 x11_4) ∧ Aside0 (Below w.heap.size w wc))
                              case first =>
                                have H := HC19.out
                                clear HC19
                                by_cases c20 : (rd l2 x12_4) > 0
                                · rw [if_pos c20] at H
                                  have c20b0 : decide (0 < (rd l2 x12_4)) = true := decide_eq_true c20
                                  clear c20
                                  (first | rw [c20b0] | (simp only [i64_w, i32_w]; rw [c20b0]) | skip)
                                  obtain ⟨ji21, hji21⟩ : ∃ j_ : Int, (mn x0_4 (wrap64 (Int.tdiv (rd l2 x12_4) 4))) = j_ := ⟨_, rfl⟩
                                  replace H : (wageofficeref41_Schedule.j4 k4 x0_4 a1 l2 x11_4 x12_4 ji21) = some (r1, r2, r3) := by first | (rw [hji21] at H; exact H) | (simp only [hji21] at H ⊢; exact H)
                                  have hji21_ : (if (wrap64 (Int.tdiv (rd l2 x12_4) 4)) < x0_4 then (wrap64 (Int.tdiv (rd l2 x12_4) 4)) else x0_4) = ji21 := hji21
                                  have H' := Aside0.mk H
                                  clear H
                                  have p199 : 0 ≤ (x12_4 : Int) := of_decide_eq_true (by first | (with_reducible assumption) | assumption)
                                  have q199 : x12_4 < (l2.length : Int) := of_decide_eq_true (by first | (with_reducible assumption) | assumption)
                                  obtain ⟨ad199, e199, hx199_0⟩ := Kd.at_int HR2.out x12_4 p199 q199
                                  obtain rfl : ad198 = ad199 := (by injection e199)
                                  replace hx199_0 := (HB.out.cell (World.block_lt_of_cell? w _ hx199_0)).trans hx199_0
                                  replace p199 := eq_true p199
                                  replace q199 := eq_true q199
                                  go_wp2
                                  go_meet
                                  case rel => exact ⟨_, (ji21), (by first | rfl | (simp; done) | (simp only [← hji21] <;> (first | rfl | simp)) | (simp [*]; done)), H', ⟨by have := HJ3.out; have := HJ7.out; have := HK3.out; have := HK4.out; first | omega | exact Nat.le_refl _⟩, ⟨by (with_reducible repeat (first | apply Kd.R_alloc | apply Kd.R_drewN | apply Kd.R_drew)); exact HO_11.out⟩, ⟨by repeat (first | (with_reducible first | exact HB.out | apply below_alloc | apply pw_below_drewN | apply below_drew1) | exact HB.out)⟩⟩
                                · rw [if_neg c20] at H
                                  have c20b0 : decide (0 < (rd l2 x12_4)) = false := decide_eq_false c20
                                  clear c20
                                  (first | rw [c20b0] | (simp only [i64_w, i32_w]; rw [c20b0]) | skip)
                                  have H' := Aside0.mk H
                                  clear H
                                  go_wp2
                                  go_meet
                                  case rel => exact ⟨_, (0), (by first | rfl | (simp; done) | (simp [*]; done)), H', ⟨by have := HJ3.out; have := HJ7.out; have := HK3.out; have := HK4.out; first | omega | exact Nat.le_refl _⟩, ⟨by (with_reducible repeat (first | apply Kd.R_alloc | apply Kd.R_drewN | apply Kd.R_drew)); exact HO_11.out⟩, ⟨by repeat (first | (with_reducible first | exact HB.out | apply below_alloc | apply pw_below_drewN | apply below_drew1) | exact HB.out)⟩⟩
                              case rest =>
                                clear HC19
                                try clear c1
                                try clear p1
                                try clear q1
                                try clear hx1
                                try clear c2
                                try clear p2
                                try clear c5
                                try clear c5b0
                                try clear c6
                                try clear c6b0
                                try clear p6
                                try clear c7
                                try clear c9
                                try clear c9b0
                                try clear c9b1
                                try clear c10
                                try clear c12
                                try clear c12b0
                                try clear c13
                                try clear c14
                                try clear c14b0
                                try clear c16
                                try clear c17
                                try clear c17b0
                                try clear c18
                                try clear c18b0
                                try clear p19
                                try clear q19
                                try clear hx19
                                try clear c20
                                try clear c20b0
                                try clear c21
                                try clear hx196_0
                                try clear hx198_0
                                try clear hx199_0
                                try clear p1
                                try clear p196
                                try clear p198
                                try clear p199
                                try clear p2
                                try clear p6
                                try clear q1
                                try clear q196
                                try clear q198
                                try clear q199
                                obtain ⟨kq, x13_18, rfl, HA, HJ18, HO_11, HB⟩ := hcut
                                cases kq with
                                | zero => exact absurd HA.out (by simp [wageofficeref41_Schedule.j4])
                                | succ kj18 =>
                                  have H := HA.out
                                  clear HA
                                  simp only [wageofficeref41_Schedule.j4] at H
                                  by_cases c22 : x13_18 > 0
                                  · rw [if_pos c22] at H
                                    have c22b0 : decide (0 < x13_18) = true := decide_eq_true c22
                                    clear c22
                                    by_cases c23 : x11_4.length < 8796093022208
                                    · rw [if_pos c23] at H
                                      have LMc23 := Aside0.mk c23
                                      clear c23
                                      obtain ⟨y200, hy200⟩ : ∃ y_ : List (S41), y_ = (x11_4 ++ [(⟨wrap64 (a1 + x12_4), x13_18⟩ : S41)]) := ⟨_, rfl⟩
                                      replace H : (wageofficeref41_Schedule.l1 kj18 (wrap64 (x0_4 - x13_18)) a1 l2 y200 (wrap64 (x12_4 + 1))) = some (r1, r2, r3) := by first | (rw [hy200]; with_reducible exact H) | (have H2_ := (Option.bind_some _ _).symm.trans H; rw [hy200]; with_reducible exact H2_) | (have H2_ := (Option.bind_some _ _).symm.trans H; with_reducible exact H2_) | with_reducible exact H | (rw [hy200]; exact H) | exact H
                                      have Ny200 := Aside0.mk hy200
                                      clear hy200
                                      have H' := Aside0.mk H
                                      clear H
                                      go_wp2_with (first | ((with_reducible refine gate_builtin (b := .append) (xs := #[.tmp 71, .tmp 77]) rfl ?_); (try (refine gate_guard (by rfl) ?_; dsimp only)); at_builtin; refine Kd.R_append k41 (w0 := w) w.heap.size rfl (.tmp 71) (.tmp 77) 30 41 (.agg #[(.int .i64 0), (.int .i64 0)]) 16 rfl Try.underlying30 info41 rfl (by decide) (by omega) u11 x11_4 (⟨wrap64 (a1 + x12_4), x13_18⟩ : S41) [.int .i64 (wrap64 (a1 + x12_4)), .int .i64 x13_18] (fun _ => True) (fun _ => False) rfl rfl ?aP (fun _ hk => hk.elim) ?aF ?aO ?aB ?aS ?aL ?_; (case aP => exact k41_mkM _ _ _ (⟨wrap64 (a1 + x12_4), x13_18⟩ : S41)); (case aB => exact (by repeat (first | (with_reducible first | exact HB.out | apply below_alloc | apply pw_below_drewN | apply below_drew1) | exact HB.out))); (case aF => exact (fun _ _ => trivial)); (case aO => exact (by (with_reducible repeat (first | apply Kd.R_alloc | apply Kd.R_drewN | apply Kd.R_drew)); exact HO_11.out)); (case aS => exact (below_size (by repeat (first | (with_reducible first | exact HB.out | apply below_alloc | apply pw_below_drewN | apply below_drew1) | exact HB.out)))); (case aL => have := LMc23.out; omega); intro v201 w24 ho hb hg hat; rw [← Ny200.out] at ho; have n0_ := Aside0.mk (hb); have n1_ := Aside0.mk (ho); clear HB; clear HO_11; have HB := n0_; have HO202 := n1_; clear n0_ n1_; clear ho hb hg hat))
                                      go_roundg kj18
                                      case measure => have := HJ3.out; have := HJ7.out; have := HK3.out; have := HK4.out; have := HJ18.out; omega
                                      case rel => exact ⟨(wrap64 (x0_4 - x13_18)), (y200), (wrap64 (x12_4 + 1)), (by first | rfl | (simp; done) | (simp [*]; done)), (by first | rfl | (simp; done) | (simp [*]; done)), H', ⟨by have := HJ3.out; have := HJ7.out; have := HK3.out; have := HK4.out; have := HJ18.out; omega⟩, ⟨by (with_reducible repeat (first | apply Kd.R_alloc | apply Kd.R_drewN | apply Kd.R_drew)); exact HO202.out⟩, ⟨by repeat (first | (with_reducible first | exact HB.out | apply below_alloc | apply pw_below_drewN | apply below_drew1) | exact HB.out)⟩⟩
                                    · rw [if_neg c23] at H
                                      exact absurd H (by simp)
                                  · rw [if_neg c22] at H
                                    have c22b0 : decide (0 < x13_18) = false := decide_eq_false c22
                                    clear c22
                                    have H' := Aside0.mk H
                                    clear H
                                    go_wp2
                                    go_roundg kj18
                                    case measure => have := HJ3.out; have := HJ7.out; have := HK3.out; have := HK4.out; have := HJ18.out; omega
                                    case rel => exact ⟨(x0_4), (x11_4), (wrap64 (x12_4 + 1)), (by first | rfl | (simp; done) | (simp [*]; done)), (by first | rfl | (simp; done) | (simp [*]; done)), H', ⟨by have := HJ3.out; have := HJ7.out; have := HK3.out; have := HK4.out; have := HJ18.out; omega⟩, ⟨by (with_reducible repeat (first | apply Kd.R_alloc | apply Kd.R_drewN | apply Kd.R_drew)); exact HO_11.out⟩, ⟨by repeat (first | (with_reducible first | exact HB.out | apply below_alloc | apply pw_below_drewN | apply below_drew1) | exact HB.out)⟩⟩
                            · rw [if_neg c18] at H
                              exact absurd H (by simp)
                          · rw [if_neg c17] at H
                            have c17b0 : decide (x12_4 < (l2.length : Int)) = false := decide_eq_false c17
                            clear c17
                            simp only [Option.some.injEq, Prod.mk.injEq] at H
                            obtain ⟨rfl, rfl, rfl⟩ := H
                            go_wp2
                            go_ret3
                            exact ⟨_, by first | rfl | (simp [errW_none, errW_some] <;> rfl) | (simp [*, errW_none, errW_some] <;> rfl), by (with_reducible repeat (first | apply Kd.R_alloc | apply Kd.R_drewN | apply Kd.R_drew)); exact HO_11.out, by repeat (first | (with_reducible first | exact HB.out | apply below_alloc | apply pw_below_drewN | apply below_drew1) | exact HB.out)⟩

-- NOT PRINTED: function 3 (wageofficelaw41_ReclaimMatchesReference)

/-! ### wageofficelaw41_ReclaimAsDue: function 4 -/
def wageofficelaw41_ReclaimAsDue.l0 : Nat → Bool → List Int → List Int → Int → Int → Option (Bool)
  | 0, _, _, _, _, _ => none
  | k + 1, x3, x4, x5, x6, x7 => if x7 < (x4.length : Int) then (if 0 ≤ x7 then (if x5.length < 17592186044416 then (wageofficelaw41_ReclaimAsDue.l0 k x3 x4 (x5 ++ [wrap64 (x6 + (rd x4 x7))]) (wrap64 (x6 + (rd x4 x7))) (wrap64 (x7 + 1))) else (none)) else (none)) else ((reclaim_Fold.f k x5 x4).bind fun bt214 => (if x3 = true then (if bt214.2 = 0 then ((wageofficeref41_Same.f k bt214.1 x5).bind fun t218 => (some t218)) else (none)) else (none)))
def wageofficelaw41_ReclaimAsDue.f (k : Nat) (l0 : List Int) : Option (Bool) := (wageofficelaw41_head.f k).bind fun t206 => ((wageofficelaw41_amounts.f k l0).bind fun t207 => (wageofficelaw41_ReclaimAsDue.l0 k t206 t207 ([] : List Int) 0 0))
theorem wageofficelaw41_ReclaimAsDue.mono_l : ∀ k, (∀ y0 y1 y2 y3 y4, LeO (wageofficelaw41_ReclaimAsDue.l0 k y0 y1 y2 y3 y4) (wageofficelaw41_ReclaimAsDue.l0 (k + 1) y0 y1 y2 y3 y4))
  | 0 => fun _ _ _ _ _ r h => by simp [wageofficelaw41_ReclaimAsDue.l0] at h
  | k + 1 => by
    have ih0 := wageofficelaw41_ReclaimAsDue.mono_l k
    · intro y0 y1 y2 y3 y4
      unfold wageofficelaw41_ReclaimAsDue.l0
      repeat' first
      | (with_reducible exact ih0 _ _ _ _ _)
      | (with_reducible exact reclaim_Fold.mono _ _ _)
      | (with_reducible exact wageofficelaw41_amounts.mono _ _)
      | (with_reducible exact wageofficelaw41_head.mono _)
      | (with_reducible exact wageofficeref41_Same.mono _ _ _)
      | (with_reducible exact LeO.refl _)
      | (with_reducible exact LeO.none _)
      | (with_reducible refine LeO.ite ?_ ?_)
      | (with_reducible refine LeO.bind ?_ (fun _ => ?_))
      | exact ih0 _ _ _ _ _
      | exact reclaim_Fold.mono _ _ _
      | exact wageofficelaw41_amounts.mono _ _
      | exact wageofficelaw41_head.mono _
      | exact wageofficeref41_Same.mono _ _ _
      | exact LeO.none _
      | refine LeO.ite ?_ ?_
      | refine LeO.bind ?_ (fun _ => ?_)
theorem wageofficelaw41_ReclaimAsDue.mono : ∀ a0 k, LeO (wageofficelaw41_ReclaimAsDue.f k a0) (wageofficelaw41_ReclaimAsDue.f (k + 1) a0) := by
  intro a0 k
  have ih0 := wageofficelaw41_ReclaimAsDue.mono_l k
  unfold wageofficelaw41_ReclaimAsDue.f
  repeat' first
      | (with_reducible exact ih0 _ _ _ _ _)
      | (with_reducible exact reclaim_Fold.mono _ _ _)
      | (with_reducible exact wageofficelaw41_amounts.mono _ _)
      | (with_reducible exact wageofficelaw41_head.mono _)
      | (with_reducible exact wageofficeref41_Same.mono _ _ _)
      | (with_reducible exact LeO.refl _)
      | (with_reducible exact LeO.none _)
      | (with_reducible refine LeO.ite ?_ ?_)
      | (with_reducible refine LeO.bind ?_ (fun _ => ?_))
      | exact ih0 _ _ _ _ _
      | exact reclaim_Fold.mono _ _ _
      | exact wageofficelaw41_amounts.mono _ _
      | exact wageofficelaw41_head.mono _
      | exact wageofficeref41_Same.mono _ _ _
      | exact LeO.none _
      | refine LeO.ite ?_ ?_
      | refine LeO.bind ?_ (fun _ => ?_)
set_option maxHeartbeats 8000000 in
set_option maxRecDepth 100000 in
theorem wageofficelaw41_ReclaimAsDue.calls (k : Nat) (A0 : Option Addr) (c0 : Nat) (l0 : List Int) (r : Bool) (w : World) (hr0 : Kd.C (Kd.int .i64) w A0 l0.length l0) (hc0 : l0.length ≤ c0) (h : wageofficelaw41_ReclaimAsDue.f k l0 = some r) :
    Calls Try.prog 4 #[.slice A0 l0.length c0] w fun e w' => e = .returned (.bool r) ∧ Below w.heap.size w w' := by
  have HR0 := Aside0.mk hr0
  have HC0 := Aside0.mk hc0
  clear hr0 hc0
  have HB := Aside0.mk (Below.refl w.heap.size w)
  have H : ((wageofficelaw41_head.f k).bind fun t206 => ((wageofficelaw41_amounts.f k l0).bind fun t207 => (wageofficelaw41_ReclaimAsDue.l0 k t206 t207 ([] : List Int) 0 0))) = some r := h
  clear h
  replace H := Option.bind_eq_some_iff.mp H
  obtain ⟨t206, A20, H⟩ := H
  replace H : ((wageofficelaw41_amounts.f k l0).bind fun t207 => (wageofficelaw41_ReclaimAsDue.l0 k t206 t207 ([] : List Int) 0 0)) = some r := H
  have A2 := Aside0.mk A20
  clear A20
  replace H := Option.bind_eq_some_iff.mp H
  obtain ⟨t207, A30, H⟩ := H
  replace H : (wageofficelaw41_ReclaimAsDue.l0 k t206 t207 ([] : List Int) 0 0) = some r := H
  have A3 := Aside0.mk A30
  clear A30
  have H' := Aside0.mk H
  clear H
  go_enter Try.func4, Try.ntmps4
  go_wp2_with (first | ((with_reducible refine gate_callee (f := 8) rfl ?_); refine goesL_ (some 10) rfl rfl Try.func8 (by kernel_rfl) rfl #[] rfl (by (try simp only [List.map_toArray, List.map_cons, List.map_nil]); first | done | rfl | (simp only [List.length_drop, List.length_take]; rfl)) ?_; (with_reducible refine (wageofficelaw41_head.calls k  t206 _ A2.out).mono ?_); rintro e w4 ⟨rfl, hb⟩; refine ⟨_, rfl, ?_⟩; have n0_ := Aside0.mk (below_step (by repeat (first | (with_reducible first | exact HB.out | apply below_alloc | apply pw_below_drewN | apply below_drew1) | exact HB.out)) hb); clear HB; have HB := n0_; clear n0_; (try clear hb); (try clear hb2); (try clear hk); (try clear hi)) | ((with_reducible refine gate_callee (f := 9) rfl ?_); refine goesL_ (some 12) rfl rfl Try.func9 (by kernel_rfl) rfl #[.slice A0 l0.length c0] rfl (by (try simp only [List.map_toArray, List.map_cons, List.map_nil]); first | done | rfl | (simp only [List.length_drop, List.length_take]; rfl)) ?_; (with_reducible refine (wageofficelaw41_amounts.calls k _ _ l0 t207 _ ?side1 ?side2 A3.out).mono ?_); (case side1 => repeat (first | exact (Kd.C_below HR0.out HB.out) | (with_reducible refine Kd.C_alloc ?_ _) | (with_reducible refine Kd.C_drewN ?_ _) | (with_reducible refine Kd.C_drew ?_))); (case side2 => exact HC0.out); rintro e w5 ⟨v208, rfl, ho0, hb⟩; refine ⟨_, rfl, ?_⟩; have n0_ := Aside0.mk (Kd.R_lower ho0 (below_size (by repeat (first | (with_reducible first | exact HB.out | apply below_alloc | apply pw_below_drewN | apply below_drew1) | exact HB.out)))); have n1_ := Aside0.mk (below_step (by repeat (first | (with_reducible first | exact HB.out | apply below_alloc | apply pw_below_drewN | apply below_drew1) | exact HB.out)) hb); clear HB; have HO209 := n0_; have HB := n1_; clear n0_ n1_; (try clear hb); (try clear hb2); (try clear hk); (try clear hi); (try clear ho0)))
  go_loopg [5, 6, 7] k (fun kq v5 v6 v7 w' => ∃ (x5_1 : List Int) (x6_1 : Int) (x7_1 : Int), v6 = .int .i64 x6_1 ∧ v7 = .int .i64 x7_1 ∧ Aside0 (wageofficelaw41_ReclaimAsDue.l0 kq t206 t207 x5_1 x6_1 x7_1 = some r) ∧ Aside0 (kq ≤ k) ∧ Aside0 (Kd.R (Kd.int .i64) 3 w' w.heap.size (fun k_ => some k_ ≠ (v5 : Value).ownBlock) v208 t207) ∧ Aside0 (Kd.R (Kd.int .i64) 3 w' w.heap.size (fun k_ => some k_ ≠ (v208 : Value).ownBlock) v5 x5_1) ∧ Aside0 (Below w.heap.size w w'))
  case atStart => exact ⟨(([] : List Int)), (0), (0), (by first | rfl | (simp; done) | (simp [*]; done)), (by first | rfl | (simp; done) | (simp [*]; done)), H', ⟨Nat.le_refl _⟩, ⟨by (with_reducible repeat (first | apply Kd.R_alloc | apply Kd.R_drewN | apply Kd.R_drew)); exact Kd.R_mono HO209.out (fun _ hk => (by simp [Value.ownBlock]))⟩, ⟨by first | exact Kd.R_nil _ _ _ _ _ | exact Kd.N_nil _ _ _ _ _ | exact Kd.V_nil _ _ _ _ _ | exact Kd.Q_nil _ _ _ _ _ | exact Kd.S_nil _ _ _ _ _⟩, ⟨by repeat (first | (with_reducible first | exact HB.out | apply below_alloc | apply pw_below_drewN | apply below_drew1) | exact HB.out)⟩⟩
  case round =>
    clear H'
    try clear p2
    try clear c4
    obtain ⟨x5_1, x6_1, x7_1, rfl, rfl, HA, HK1, HO_4, HO_5, HB⟩ := hrel
    cases gk with
    | zero => exact absurd HA.out (by simp [wageofficelaw41_ReclaimAsDue.l0])
    | succ k1 =>
      have H := HA.out
      clear HA
      simp only [wageofficelaw41_ReclaimAsDue.l0] at H
      by_cases c6 : x7_1 < (t207.length : Int)
      · rw [if_pos c6] at H
        have c6b0 : decide (x7_1 < (t207.length : Int)) = true := decide_eq_true c6
        clear c6
        by_cases c7 : 0 ≤ x7_1
        · rw [if_pos c7] at H
          have c7b0 : decide (0 ≤ x7_1) = true := decide_eq_true c7
          clear c7
          by_cases c8 : x5_1.length < 17592186044416
          · rw [if_pos c8] at H
            have LMc8 := Aside0.mk c8
            clear c8
            obtain ⟨y211, hy211⟩ : ∃ y_ : List Int, y_ = (x5_1 ++ [wrap64 (x6_1 + (rd t207 x7_1))]) := ⟨_, rfl⟩
            replace H : (wageofficelaw41_ReclaimAsDue.l0 k1 t206 t207 y211 (wrap64 (x6_1 + (rd t207 x7_1))) (wrap64 (x7_1 + 1))) = some r := by first | (rw [hy211]; with_reducible exact H) | (have H2_ := (Option.bind_some _ _).symm.trans H; rw [hy211]; with_reducible exact H2_) | (have H2_ := (Option.bind_some _ _).symm.trans H; with_reducible exact H2_) | with_reducible exact H | (rw [hy211]; exact H) | exact H
            have Ny211 := Aside0.mk hy211
            clear hy211
            have H' := Aside0.mk H
            clear H
            obtain ⟨Ao9, co9, eo9⟩ := Kd.R_slice HO_4.out
            subst eo9
            have p210 : 0 ≤ (x7_1 : Int) := of_decide_eq_true (by first | (with_reducible assumption) | assumption)
            have q210 : x7_1 < (t207.length : Int) := of_decide_eq_true (by first | (with_reducible assumption) | assumption)
            obtain ⟨ad210, e210, hx210_0⟩ := Kd.at_int (Kd.R_reads' HO_4.out).2.2 x7_1 p210 q210
            cases e210
            replace p210 := eq_true p210
            replace q210 := eq_true q210
            go_wp2_with (first | ((with_reducible refine gate_builtin (b := .append) (xs := #[.tmp 25, .tmp 27]) rfl ?_); at_builtin; refine Kd.R_append (Kd.int .i64) (w0 := w) w.heap.size rfl (.tmp 25) (.tmp 27) 22 3 (.int .i64 0) 8 rfl Try.underlying22 info3 rfl (by decide) (by omega) u5 x5_1 (wrap64 (x6_1 + (rd t207 x7_1))) [.int .i64 (wrap64 (x6_1 + (rd t207 x7_1)))] (fun k_ => some k_ ≠ (.slice (some ad210) t207.length co9 : Value).ownBlock) (fun _ => False) rfl rfl ?aP (fun _ hk => hk.elim) ?aF ?aO ?aB ?aS ?aL ?_; (case aP => exact rfl); (case aB => exact (by repeat (first | (with_reducible first | exact HB.out | apply below_alloc | apply pw_below_drewN | apply below_drew1) | exact HB.out))); (case aF => exact (fun k_ hk => Kd.fresh' (Kd.R_lt (by (with_reducible repeat (first | apply Kd.R_alloc | apply Kd.R_drewN | apply Kd.R_drew)); exact HO_4.out)) k_ hk)); (case aO => exact (by (with_reducible repeat (first | apply Kd.R_alloc | apply Kd.R_drewN | apply Kd.R_drew)); exact HO_5.out)); (case aS => exact (below_size (by repeat (first | (with_reducible first | exact HB.out | apply below_alloc | apply pw_below_drewN | apply below_drew1) | exact HB.out)))); (case aL => have := LMc8.out; omega); intro v212 w10 ho hb hg hat; rw [← Ny211.out] at ho; have n0_ := Aside0.mk (Kd.R_after (ok := (fun _ => True)) (by (with_reducible repeat (first | apply Kd.R_alloc | apply Kd.R_drewN | apply Kd.R_drew)); exact Kd.R_mono HO_4.out (fun _ hk => ⟨trivial, hk⟩)) hg hat); have n1_ := Aside0.mk (hb); have n2_ := Aside0.mk (ho); clear HO_4; clear HB; clear HO_5; have HO_4 := n0_; have HB := n1_; have HO213 := n2_; clear n0_ n1_ n2_; clear ho hb hg hat))
            go_roundg k1
            case measure => have := HK1.out; omega
            case rel => exact ⟨(y211), (wrap64 (x6_1 + (rd t207 x7_1))), (wrap64 (x7_1 + 1)), (by first | rfl | (simp; done) | (simp [*]; done)), (by first | rfl | (simp; done) | (simp [*]; done)), H', ⟨by have := HK1.out; omega⟩, ⟨by (with_reducible repeat (first | apply Kd.R_alloc | apply Kd.R_drewN | apply Kd.R_drew)); exact Kd.R_mono HO_4.out (fun _ hk => hk.2)⟩, ⟨by (with_reducible repeat (first | apply Kd.R_alloc | apply Kd.R_drewN | apply Kd.R_drew)); exact HO213.out⟩, ⟨by repeat (first | (with_reducible first | exact HB.out | apply below_alloc | apply pw_below_drewN | apply below_drew1) | exact HB.out)⟩⟩
          · rw [if_neg c8] at H
            exact absurd H (by simp)
        · rw [if_neg c7] at H
          exact absurd H (by simp)
      · rw [if_neg c6] at H
        have c6b0 : decide (x7_1 < (t207.length : Int)) = false := decide_eq_false c6
        clear c6
        replace H := Option.bind_eq_some_iff.mp H
        obtain ⟨⟨t214, t215⟩, A110, H⟩ := H
        replace H : (if t206 = true then (if t215 = 0 then ((wageofficeref41_Same.f k1 t214 x5_1).bind fun t218 => (some t218)) else (none)) else (none)) = some r := H
        have A11 := Aside0.mk A110
        clear A110
        by_cases c12 : t206 = true
        · subst c12
          have H1 : (if t215 = 0 then ((wageofficeref41_Same.f k1 t214 x5_1).bind fun t218 => (some t218)) else (none)) = some r := by rw [if_pos rfl] at H; exact H
          clear H
          have H := H1
          clear H1
          by_cases c13 : t215 = 0
          · rw [if_pos c13] at H
            have c13b0 : (t215 == 0) = true := beq_iff_eq.mpr c13
            have c13b1 : (t215 != 0) = false := bne_eq_false_iff_eq.mpr c13
            clear c13
            replace H := Option.bind_eq_some_iff.mp H
            obtain ⟨t218, A140, H⟩ := H
            replace H : (some t218) = some r := H
            have A14 := Aside0.mk A140
            clear A140
            obtain rfl := Option.some.inj H
            obtain ⟨Ao15, co15, eo15⟩ := Kd.R_slice HO_4.out
            subst eo15
            obtain ⟨Ao16, co16, eo16⟩ := Kd.R_slice HO_5.out
            subst eo16
            go_wp2_with (first | ((with_reducible refine gate_callee (f := 10) rfl ?_); refine goesL_ (some 32) rfl rfl Try.func10 (by kernel_rfl) rfl #[.slice Ao16 x5_1.length co16, .slice Ao15 t207.length co15] rfl (by (try simp only [List.map_toArray, List.map_cons, List.map_nil]); first | done | rfl | (simp only [List.length_drop, List.length_take]; rfl)) ?_; (with_reducible refine (reclaim_Fold.calls k1 _ _ x5_1 _ _ t207 t214 t215 _ ?side1 ?side2 ?side3 ?side4 A11.out).mono ?_); (case side1 => repeat (first | exact (Kd.R_reads' HO_5.out).2.2 | (with_reducible refine Kd.C_alloc ?_ _) | (with_reducible refine Kd.C_drewN ?_ _) | (with_reducible refine Kd.C_drew ?_))); (case side2 => exact (Kd.R_reads' HO_5.out).2.1); (case side3 => repeat (first | exact (Kd.R_reads' HO_4.out).2.2 | (with_reducible refine Kd.C_alloc ?_ _) | (with_reducible refine Kd.C_drewN ?_ _) | (with_reducible refine Kd.C_drew ?_))); (case side4 => exact (Kd.R_reads' HO_4.out).2.1); rintro e w17 ⟨v216, rfl, ho0, hb⟩; refine ⟨_, rfl, ?_⟩; have n0_ := Aside0.mk (Kd.R_elder' (by (with_reducible repeat (first | apply Kd.R_alloc | apply Kd.R_drewN | apply Kd.R_drew)); exact HO_4.out) (Kd.R_base ho0) hb); have n1_ := Aside0.mk (Kd.R_elder' (by (with_reducible repeat (first | apply Kd.R_alloc | apply Kd.R_drewN | apply Kd.R_drew)); exact HO_5.out) (Kd.R_base ho0) hb); have n2_ := Aside0.mk (Kd.R_lower (Kd.R_new' (Kd.R_new' ho0 (Kd.R_lt (by (with_reducible repeat (first | apply Kd.R_alloc | apply Kd.R_drewN | apply Kd.R_drew)); exact HO_4.out))) (Kd.R_lt (by (with_reducible repeat (first | apply Kd.R_alloc | apply Kd.R_drewN | apply Kd.R_drew)); exact HO_5.out))) (below_size (by repeat (first | (with_reducible first | exact HB.out | apply below_alloc | apply pw_below_drewN | apply below_drew1) | exact HB.out)))); have n3_ := Aside0.mk (below_step (by repeat (first | (with_reducible first | exact HB.out | apply below_alloc | apply pw_below_drewN | apply below_drew1) | exact HB.out)) hb); clear HO_4; clear HO_5; clear HB; have HO_4 := n0_; have HO_5 := n1_; have HO217 := n2_; have HB := n3_; clear n0_ n1_ n2_ n3_; (try clear hb); (try clear hb2); (try clear hk); (try clear hi); (try clear ho0); obtain ⟨Ao18, co18, eo18⟩ := Kd.R_slice HO217.out; subst eo18) | (go_at_call 15; (with_reducible refine (wageofficeref41_Same.calls k1 _ _ t214 _ _ x5_1 t218 _ ?side1 ?side2 ?side3 ?side4 A14.out).mono ?_); (case side1 => repeat (first | exact (Kd.R_reads' HO217.out).2.2 | (with_reducible refine Kd.C_alloc ?_ _) | (with_reducible refine Kd.C_drewN ?_ _) | (with_reducible refine Kd.C_drew ?_))); (case side2 => exact (Kd.R_reads' HO217.out).2.1); (case side3 => repeat (first | exact (Kd.R_reads' HO_5.out).2.2 | (with_reducible refine Kd.C_alloc ?_ _) | (with_reducible refine Kd.C_drewN ?_ _) | (with_reducible refine Kd.C_drew ?_))); (case side4 => exact (Kd.R_reads' HO_5.out).2.1); rintro e w' ⟨rfl, ⟨nd, rfl⟩⟩))
            go_ret
            exact ⟨by first | rfl | (simp [errW_none, errW_some] <;> rfl) | (simp [*, errW_none, errW_some] <;> rfl), by repeat (first | (with_reducible first | exact HB.out | apply below_alloc | apply pw_below_drewN | apply below_drew1) | exact HB.out)⟩
          · rw [if_neg c13] at H
            exact absurd H (by simp)
        · replace c12 := Bool.eq_false_iff.mpr c12
          subst c12
          have H1 : (none) = some r := by rw [if_neg (show ¬ (false = true) by decide)] at H; exact H
          clear H
          have H := H1
          clear H1
          exact absurd H (by simp)

/-- THE ONE PURE STATEMENT of wageofficelaw41_ReclaimAsDue: yours. -/
def wageofficelaw41_ReclaimAsDue.Pure : Prop := ∀ (l0 : List Int), l0.length ≤ maxLen → l0.length * 8 ≤ 140737488351232 → (∀ x ∈ l0, (Lit.int .i64 x).wf = true) → ∃ k, wageofficelaw41_ReclaimAsDue.f k l0 = some true
theorem wageofficelaw41_ReclaimAsDue.walk (P : wageofficelaw41_ReclaimAsDue.Pure) (a0 : Option Addr) (len0 cap0 : Nat) (z0 : List Int) (w : World) (w0 : (a0 = none ∧ len0 = 0 ∧ cap0 = 0 ∧ z0 = []) ∨ ∃ x, a0 = some x ∧ len0 ≤ cap0 ∧ cap0 ≤ maxLen ∧ z0.length = cap0 ∧ (∀ i, i < z0.length → w.cell? (x.add i) = some (.int .i64 (z0.getD i 0))) ∧ ∀ n ∈ z0, (Lit.int .i64 n).wf = true) (y0 : len0 * 8 ≤ 140737488351232) :
    Calls Try.prog 4 #[.slice a0 len0 cap0] w fun e w' => e = .returned (.bool true) ∧ Below w.heap.size w w' := by
  obtain ⟨l0, rfl, hr0, hm0, hw0, hc0⟩ := ReadsInt.ofRowC w0
  obtain ⟨k, h⟩ := P l0 hm0 y0 hw0
  refine (wageofficelaw41_ReclaimAsDue.calls k _ _ l0 true w (Kd.C_of_reads (d := (0 : Int)) (h1 := fun _ => rfl) hr0) hc0 h).mono ?_
  rintro e w' ⟨rfl, hd⟩
  exact ⟨rfl, hd⟩

end Go.Proofs.Ytpgghakjbghagaa.Hp
