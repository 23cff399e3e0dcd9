/- Written by a program of this session (hprint.py) and by hand: contracts of the functions that the laws reach, and the row of a law. -/
import Derived.Test.YtpgghakjbghagaaHpx0
import Derived.Test.YtpgghakjbghagaaHpx2
namespace Go.Proofs.Ytpgghakjbghagaa.Hp
open Go.RowKit Go.Proofs.Ytpgghakjbghagaa.HWords Go.Proofs.YtpgghakjbghagaaW.PrintWords Go.Proofs.YtpgghakjbghagaaW.PrintLast Go.Proofs.YtpgghakjbghagaaW.PrintMore
attribute [local go_sem] max2_int min2_int max_two min_two max_three min_three max_four min_four   -- for this text's walks alone
set_option linter.unusedVariables false
set_option linter.unusedSimpArgs false

/-! ### reclaim_greatest_int: function 23 -/
def reclaim_greatest_int.l0 : Nat → Int → List Int → Int → Int → Option (Int)
  | 0, _, _, _, _ => none
  | k + 1, x0, x7, x8, x9 => if x9 < x8 then (if 0 ≤ x9 then (if x9 < (x7.length : Int) then (reclaim_greatest_int.l0 k (mx x0 (rd x7 x9)) x7 x8 (wrap64 (x9 + 1))) else (none)) else (none)) else (some x0)
def reclaim_greatest_int.f (k : Nat) (a0 : Int) (l1 : List Int) : Option (Int) := reclaim_greatest_int.l0 k a0 l1 (l1.length : Int) 0
theorem reclaim_greatest_int.mono_l : ∀ k, (∀ y0 y1 y2 y3, LeO (reclaim_greatest_int.l0 k y0 y1 y2 y3) (reclaim_greatest_int.l0 (k + 1) y0 y1 y2 y3))
  | 0 => fun _ _ _ _ r h => by simp [reclaim_greatest_int.l0] at h
  | k + 1 => by
    have ih0 := reclaim_greatest_int.mono_l k
    · intro y0 y1 y2 y3
      unfold reclaim_greatest_int.l0
      repeat' first
      | (with_reducible exact ih0 _ _ _ _)
      | (with_reducible exact LeO.refl _)
      | (with_reducible exact LeO.none _)
      | (with_reducible refine LeO.ite ?_ ?_)
      | (with_reducible refine LeO.bind ?_ (fun _ => ?_))
      | exact ih0 _ _ _ _
      | exact LeO.none _
      | refine LeO.ite ?_ ?_
      | refine LeO.bind ?_ (fun _ => ?_)
theorem reclaim_greatest_int.mono : ∀ a0 a1 k, LeO (reclaim_greatest_int.f k a0 a1) (reclaim_greatest_int.f (k + 1) a0 a1) := by
  intro a0 a1 k
  have ih0 := reclaim_greatest_int.mono_l k
  unfold reclaim_greatest_int.f
  repeat' first
      | (with_reducible exact ih0 _ _ _ _)
      | (with_reducible exact LeO.refl _)
      | (with_reducible exact LeO.none _)
      | (with_reducible refine LeO.ite ?_ ?_)
      | (with_reducible refine LeO.bind ?_ (fun _ => ?_))
      | exact ih0 _ _ _ _
      | exact LeO.none _
      | refine LeO.ite ?_ ?_
      | refine LeO.bind ?_ (fun _ => ?_)
set_option maxHeartbeats 8000000 in
set_option maxRecDepth 100000 in
theorem reclaim_greatest_int.calls (k : Nat) (a0 : Int) (A1 : Option Addr) (c1 : Nat) (l1 : List Int) (r : Int) (w : World) (hr1 : Kd.C (Kd.int .i64) w A1 l1.length l1) (hc1 : l1.length ≤ c1) (h : reclaim_greatest_int.f k a0 l1 = some r) :
    Calls Try.prog 23 #[.int .i64 a0, .slice A1 l1.length c1] w fun e w' => e = .returned (.int .i64 r) ∧ Below w.heap.size w w' := by
  have HR1 := Aside0.mk hr1
  have HC1 := Aside0.mk hc1
  clear hr1 hc1
  have HB := Aside0.mk (Below.refl w.heap.size w)
  have H : (reclaim_greatest_int.l0 k a0 l1 (l1.length : Int) 0) = some r := h
  clear h
  have H' := Aside0.mk H
  clear H
  go_enter Try.func23, Try.ntmps23
  go_wp2
  go_loopg [0, 9] k (fun kq v0 v9 w' => ∃ (x0_1 : Int) (x9_1 : Int), v0 = .int .i64 x0_1 ∧ v9 = .int .i64 x9_1 ∧ Aside0 (reclaim_greatest_int.l0 kq x0_1 l1 (l1.length : Int) x9_1 = some r) ∧ Aside0 (kq ≤ k) ∧ Aside0 (Below w.heap.size w w'))
  case atStart => exact ⟨(a0), (0), (by first | rfl | (simp; done) | (simp [*]; done)), (by first | rfl | (simp; done) | (simp [*]; done)), H', ⟨Nat.le_refl _⟩, ⟨by repeat (first | (with_reducible first | exact HB.out | apply below_alloc | apply pw_below_drewN | apply below_drew1) | exact HB.out)⟩⟩
  case round =>
    clear H'
    try clear c1
    try clear c2
    try clear p2
    obtain ⟨x0_1, x9_1, rfl, rfl, HA, HK1, HB⟩ := hrel
    cases gk with
    | zero => exact absurd HA.out (by simp [reclaim_greatest_int.l0])
    | succ k1 =>
      have H := HA.out
      clear HA
      simp only [reclaim_greatest_int.l0] at H
      by_cases c3 : x9_1 < (l1.length : Int)
      · rw [if_pos c3] at H
        have c3b0 : decide (x9_1 < (l1.length : Int)) = true := decide_eq_true c3
        clear c3
        by_cases c4 : 0 ≤ x9_1
        · rw [if_pos c4] at H
          have c4b0 : decide (0 ≤ x9_1) = true := decide_eq_true c4
          clear c4
          by_cases c5 : x9_1 < (l1.length : Int)
          · rw [if_pos c5] at H
            have c5b0 : decide (x9_1 < (l1.length : Int)) = true := decide_eq_true c5
            clear c5
            obtain ⟨ji6, hji6⟩ : ∃ j_ : Int, (mx x0_1 (rd l1 x9_1)) = j_ := ⟨_, rfl⟩
            replace H : (reclaim_greatest_int.l0 k1 ji6 l1 (l1.length : Int) (wrap64 (x9_1 + 1))) = some r := by first | (rw [hji6] at H; exact H) | (simp only [hji6] at H ⊢; exact H)
            have hji6_ : (if x0_1 < (rd l1 x9_1) then (rd l1 x9_1) else x0_1) = ji6 := hji6
            have H' := Aside0.mk H
            clear H
            have p108 : 0 ≤ (x9_1 : Int) := of_decide_eq_true (by first | (with_reducible assumption) | assumption)
            have q108 : x9_1 < (l1.length : Int) := of_decide_eq_true (by first | (with_reducible assumption) | assumption)
            obtain ⟨ad108, e108, hx108_0⟩ := Kd.at_int HR1.out x9_1 p108 q108
            cases e108
            replace hx108_0 := (HB.out.cell (World.block_lt_of_cell? w _ hx108_0)).trans hx108_0
            replace p108 := eq_true p108
            replace q108 := eq_true q108
            go_wp2
            go_roundg k1
            case measure => have := HK1.out; omega
            case rel => exact ⟨(ji6), (wrap64 (x9_1 + 1)), (by first | rfl | (simp; done) | (simp only [← hji6] <;> (first | rfl | (simp; done) | (rw [Int.tdiv_eq_ediv_of_nonneg (by unfold mx; split <;> omega)]))) | (simp [*]; done)), (by first | rfl | (simp; done) | (simp [*]; done)), H', ⟨by have := HK1.out; omega⟩, ⟨by repeat (first | (with_reducible first | exact HB.out | apply below_alloc | apply pw_below_drewN | apply below_drew1) | exact HB.out)⟩⟩
          · rw [if_neg c5] at H
            exact absurd H (by simp)
        · rw [if_neg c4] at H
          exact absurd H (by simp)
      · rw [if_neg c3] at H
        have c3b0 : decide (x9_1 < (l1.length : Int)) = false := decide_eq_false c3
        clear c3
        obtain rfl := Option.some.inj H
        go_wp2
        go_ret
        exact ⟨by first | rfl | (simp [errW_none, errW_some] <;> rfl) | (simp [*, errW_none, errW_some] <;> rfl), by repeat (first | (with_reducible first | exact HB.out | apply below_alloc | apply pw_below_drewN | apply below_drew1) | exact HB.out)⟩

/-! ### reclaim_Next: function 17 -/
def reclaim_Next.f (k : Nat) (a0 : Int) (a1 : Int) (a2 : Int) : Option (Int × Int) := (reclaim_inRange.f k (([a0, a1, a2] : List Int))).bind fun t112 => (if t112 = true then ((reclaim_part.f k a2).bind fun t113 => ((reclaim_greatest_int.f k 0 (([wrap64 (a0 - a1), wrap64 (a2 - t113)] : List Int))).bind fun t117 => ((reclaim_inRange.f k (([t117] : List Int))).bind fun t121 => (if t121 = true then (some (t117, 0)) else (some (0, 3)))))) else (some (0, 3)))
theorem reclaim_Next.mono : ∀ a0 a1 a2 k, LeO (reclaim_Next.f k a0 a1 a2) (reclaim_Next.f (k + 1) a0 a1 a2) := by
  intro a0 a1 a2 k
  unfold reclaim_Next.f
  repeat' first
      | (with_reducible exact reclaim_greatest_int.mono _ _ _)
      | (with_reducible exact reclaim_inRange.mono _ _)
      | (with_reducible exact reclaim_part.mono _ _)
      | (with_reducible exact LeO.refl _)
      | (with_reducible exact LeO.none _)
      | (with_reducible refine LeO.ite ?_ ?_)
      | (with_reducible refine LeO.bind ?_ (fun _ => ?_))
      | exact reclaim_greatest_int.mono _ _ _
      | exact reclaim_inRange.mono _ _
      | exact reclaim_part.mono _ _
      | exact LeO.none _
      | refine LeO.ite ?_ ?_
      | refine LeO.bind ?_ (fun _ => ?_)
set_option maxHeartbeats 8000000 in
set_option maxRecDepth 100000 in
theorem reclaim_Next.calls (k : Nat) (a0 : Int) (a1 : Int) (a2 : Int) (r1 : Int) (r2 : Int) (w : World) (h : reclaim_Next.f k a0 a1 a2 = some (r1, r2)) :
    Calls Try.prog 17 #[.int .i64 a0, .int .i64 a1, .int .i64 a2] w fun e w' => e = .returned (.tuple #[.int .i64 r1, .int .i64 r2]) ∧ Below w.heap.size w w' := by
  have HB := Aside0.mk (Below.refl w.heap.size w)
  have H : ((reclaim_inRange.f k (([a0, a1, a2] : List Int))).bind fun t112 => (if t112 = true then ((reclaim_part.f k a2).bind fun t113 => ((reclaim_greatest_int.f k 0 (([wrap64 (a0 - a1), wrap64 (a2 - t113)] : List Int))).bind fun t117 => ((reclaim_inRange.f k (([t117] : List Int))).bind fun t121 => (if t121 = true then (some (t117, 0)) else (some (0, 3)))))) else (some (0, 3)))) = some (r1, r2) := h
  clear h
  obtain ⟨y109, hy109⟩ : ∃ y_ : List Int, y_ = (([a0, a1, a2] : List Int)) := ⟨_, rfl⟩
  replace H : ((reclaim_inRange.f k y109).bind fun t112 => (if t112 = true then ((reclaim_part.f k a2).bind fun t113 => ((reclaim_greatest_int.f k 0 (([wrap64 (a0 - a1), wrap64 (a2 - t113)] : List Int))).bind fun t117 => ((reclaim_inRange.f k (([t117] : List Int))).bind fun t121 => (if t121 = true then (some (t117, 0)) else (some (0, 3)))))) else (some (0, 3)))) = some (r1, r2) := by first | (rw [hy109]; with_reducible exact H) | (have H2_ := (Option.bind_some _ _).symm.trans H; rw [hy109]; with_reducible exact H2_) | (have H2_ := (Option.bind_some _ _).symm.trans H; with_reducible exact H2_) | with_reducible exact H | (rw [hy109]; exact H) | exact H
  have Ny109 := Aside0.mk hy109
  clear hy109
  replace H := Option.bind_eq_some_iff.mp H
  obtain ⟨t112, A40, H⟩ := H
  replace H : (if t112 = true then ((reclaim_part.f k a2).bind fun t113 => ((reclaim_greatest_int.f k 0 (([wrap64 (a0 - a1), wrap64 (a2 - t113)] : List Int))).bind fun t117 => ((reclaim_inRange.f k (([t117] : List Int))).bind fun t121 => (if t121 = true then (some (t117, 0)) else (some (0, 3)))))) else (some (0, 3))) = some (r1, r2) := H
  have A4 := Aside0.mk A40
  clear A40
  by_cases c5 : t112 = true
  · subst c5
    have H1 : ((reclaim_part.f k a2).bind fun t113 => ((reclaim_greatest_int.f k 0 (([wrap64 (a0 - a1), wrap64 (a2 - t113)] : List Int))).bind fun t117 => ((reclaim_inRange.f k (([t117] : List Int))).bind fun t121 => (if t121 = true then (some (t117, 0)) else (some (0, 3)))))) = some (r1, r2) := by rw [if_pos rfl] at H; exact H
    clear H
    have H := H1
    clear H1
    replace H := Option.bind_eq_some_iff.mp H
    obtain ⟨t113, A60, H⟩ := H
    replace H : ((reclaim_greatest_int.f k 0 (([wrap64 (a0 - a1), wrap64 (a2 - t113)] : List Int))).bind fun t117 => ((reclaim_inRange.f k (([t117] : List Int))).bind fun t121 => (if t121 = true then (some (t117, 0)) else (some (0, 3))))) = some (r1, r2) := H
    have A6 := Aside0.mk A60
    clear A60
    obtain ⟨y114, hy114⟩ : ∃ y_ : List Int, y_ = (([wrap64 (a0 - a1), wrap64 (a2 - t113)] : List Int)) := ⟨_, rfl⟩
    replace H : ((reclaim_greatest_int.f k 0 y114).bind fun t117 => ((reclaim_inRange.f k (([t117] : List Int))).bind fun t121 => (if t121 = true then (some (t117, 0)) else (some (0, 3))))) = some (r1, r2) := by first | (rw [hy114]; with_reducible exact H) | (have H2_ := (Option.bind_some _ _).symm.trans H; rw [hy114]; with_reducible exact H2_) | (have H2_ := (Option.bind_some _ _).symm.trans H; with_reducible exact H2_) | with_reducible exact H | (rw [hy114]; exact H) | exact H
    have Ny114 := Aside0.mk hy114
    clear hy114
    replace H := Option.bind_eq_some_iff.mp H
    obtain ⟨t117, A70, H⟩ := H
    replace H : ((reclaim_inRange.f k (([t117] : List Int))).bind fun t121 => (if t121 = true then (some (t117, 0)) else (some (0, 3)))) = some (r1, r2) := H
    have A7 := Aside0.mk A70
    clear A70
    obtain ⟨y118, hy118⟩ : ∃ y_ : List Int, y_ = (([t117] : List Int)) := ⟨_, rfl⟩
    replace H : ((reclaim_inRange.f k y118).bind fun t121 => (if t121 = true then (some (t117, 0)) else (some (0, 3)))) = some (r1, r2) := by first | (rw [hy118]; with_reducible exact H) | (have H2_ := (Option.bind_some _ _).symm.trans H; rw [hy118]; with_reducible exact H2_) | (have H2_ := (Option.bind_some _ _).symm.trans H; with_reducible exact H2_) | with_reducible exact H | (rw [hy118]; exact H) | exact H
    have Ny118 := Aside0.mk hy118
    clear hy118
    replace H := Option.bind_eq_some_iff.mp H
    obtain ⟨t121, A80, H⟩ := H
    replace H : (if t121 = true then (some (t117, 0)) else (some (0, 3))) = some (r1, r2) := H
    have A8 := Aside0.mk A80
    clear A80
    by_cases c9 : t121 = true
    · subst c9
      have H1 : (some (t117, 0)) = some (r1, r2) := by rw [if_pos rfl] at H; exact H
      clear H
      have H := H1
      clear H1
      simp only [Option.some.injEq, Prod.mk.injEq] at H
      obtain ⟨rfl, rfl⟩ := H
      go_enter Try.func17, Try.ntmps17
      go_wp2_with (first | ((with_reducible refine gate_dst (N := 12) rfl ?_); refine Kd.R_lit (Kd.int .i64) _ 3 ?hg (N := 12) ?hd (xs := ([a0, a1, a2] : List Int)) (inner := [.int .i64 a0, .int .i64 a1, .int .i64 a2]) (ok := fun _ => True) (okp := fun _ => True) ?hr ?hp (fun _ hk => hk) trivial (Below.refl _ _) (Nat.le_refl _) (by simp) ?_; (case hd => rfl); (case hg => rfl); (case hr => first | (go_simp; done) | (go_simp; rfl)); (case hp => exact (Reps.one (show Kd.M (Kd.int .i64) _ _ _ a0 [.int .i64 a0] from rfl) (Reps.one (show Kd.M (Kd.int .i64) _ _ _ a1 [.int .i64 a1] from rfl) (Reps.one (show Kd.M (Kd.int .i64) _ _ _ a2 [.int .i64 a2] from rfl) (Reps.none _ _))))); intro v110 w10 ho11 hb hg_ hnew_; clear hg_ hnew_; (first | rw [← Ny109.out] at ho11 | (simp only [Int.reduceToNat] at ho11; rw [← Ny109.out] at ho11)); have n0_ := Aside0.mk (Kd.R_lower ho11 (below_size (by repeat (first | (with_reducible first | exact HB.out | apply below_alloc | apply pw_below_drewN | apply below_drew1) | exact HB.out)))); have n1_ := Aside0.mk (below_step (by repeat (first | (with_reducible first | exact HB.out | apply below_alloc | apply pw_below_drewN | apply below_drew1) | exact HB.out)) hb); clear HB; have HO111 := n0_; have HB := n1_; clear n0_ n1_; clear hb ho11; obtain ⟨Ao12, co12, eo12⟩ := Kd.R_slice HO111.out; subst eo12) | ((with_reducible refine gate_callee (f := 20) rfl ?_); refine goesL_ (some 13) rfl rfl Try.func20 (by kernel_rfl) rfl #[.slice Ao12 y109.length co12] rfl (by (try simp only [List.map_toArray, List.map_cons, List.map_nil]); first | done | rfl | (simp only [List.length_drop, List.length_take]; rfl)) ?_; (with_reducible refine (reclaim_inRange.calls k _ _ y109 true _ ?side1 ?side2 A4.out).mono ?_); (case side1 => repeat (first | exact (Kd.R_reads' HO111.out).2.2 | (with_reducible refine Kd.C_alloc ?_ _) | (with_reducible refine Kd.C_drewN ?_ _) | (with_reducible refine Kd.C_drew ?_))); (case side2 => exact (Kd.R_reads' HO111.out).2.1); rintro e w' ⟨rfl, ⟨nd, rfl⟩⟩; refine ⟨_, rfl, ?_⟩) | ((with_reducible refine gate_callee (f := 22) rfl ?_); refine goesL_ (some 20) rfl rfl Try.func22 (by kernel_rfl) rfl #[.int .i64 a2] rfl (by (try simp only [List.map_toArray, List.map_cons, List.map_nil]); first | done | rfl | (simp only [List.length_drop, List.length_take]; rfl)) ?_; (with_reducible refine (reclaim_part.calls k a2 t113 _ A6.out).mono ?_); rintro e w' ⟨rfl, ⟨nd, rfl⟩⟩; refine ⟨_, rfl, ?_⟩) | ((with_reducible refine gate_dst (N := 22) rfl ?_); refine Kd.R_lit (Kd.int .i64) _ 3 ?hg (N := 22) ?hd (xs := ([wrap64 (a0 - a1), wrap64 (a2 - t113)] : List Int)) (inner := [.int .i64 (wrap64 (a0 - a1)), .int .i64 (wrap64 (a2 - t113))]) (ok := fun _ => True) (okp := fun _ => True) ?hr ?hp (fun _ hk => hk) trivial (Below.refl _ _) (Nat.le_refl _) (by simp) ?_; (case hd => rfl); (case hg => rfl); (case hr => first | (go_simp; done) | (go_simp; rfl)); (case hp => exact (Reps.one (show Kd.M (Kd.int .i64) _ _ _ (wrap64 (a0 - a1)) [.int .i64 (wrap64 (a0 - a1))] from rfl) (Reps.one (show Kd.M (Kd.int .i64) _ _ _ (wrap64 (a2 - t113)) [.int .i64 (wrap64 (a2 - t113))] from rfl) (Reps.none _ _)))); intro v115 w13 ho14 hb hg_ hnew_; clear hg_ hnew_; (first | rw [← Ny114.out] at ho14 | (simp only [Int.reduceToNat] at ho14; rw [← Ny114.out] at ho14)); have n0_ := Aside0.mk (Kd.R_elder' (by (with_reducible repeat (first | apply Kd.R_alloc | apply Kd.R_drewN | apply Kd.R_drew)); exact HO111.out) (Kd.R_base ho14) hb); have n1_ := Aside0.mk (Kd.R_lower (Kd.R_new' ho14 (Kd.R_lt (by (with_reducible repeat (first | apply Kd.R_alloc | apply Kd.R_drewN | apply Kd.R_drew)); exact HO111.out))) (below_size (by repeat (first | (with_reducible first | exact HB.out | apply below_alloc | apply pw_below_drewN | apply below_drew1) | exact HB.out)))); have n2_ := Aside0.mk (below_step (by repeat (first | (with_reducible first | exact HB.out | apply below_alloc | apply pw_below_drewN | apply below_drew1) | exact HB.out)) hb); clear HO111; clear HB; have HO111 := n0_; have HO116 := n1_; have HB := n2_; clear n0_ n1_ n2_; clear hb ho14; obtain ⟨Ao15, co15, eo15⟩ := Kd.R_slice HO116.out; subst eo15) | ((with_reducible refine gate_callee (f := 23) rfl ?_); refine goesL_ (some 23) rfl rfl Try.func23 (by kernel_rfl) rfl #[.int .i64 0, .slice Ao15 y114.length co15] rfl (by (try simp only [List.map_toArray, List.map_cons, List.map_nil]); first | done | rfl | (simp only [List.length_drop, List.length_take]; rfl)) ?_; (with_reducible refine (reclaim_greatest_int.calls k 0 _ _ y114 t117 _ ?side1 ?side2 A7.out).mono ?_); (case side1 => repeat (first | exact (Kd.R_reads' HO116.out).2.2 | (with_reducible refine Kd.C_alloc ?_ _) | (with_reducible refine Kd.C_drewN ?_ _) | (with_reducible refine Kd.C_drew ?_))); (case side2 => exact (Kd.R_reads' HO116.out).2.1); rintro e w16 ⟨rfl, hb⟩; refine ⟨_, rfl, ?_⟩; have n0_ := Aside0.mk (Kd.R_below (by (with_reducible repeat (first | apply Kd.R_alloc | apply Kd.R_drewN | apply Kd.R_drew)); exact HO111.out) hb); have n1_ := Aside0.mk (Kd.R_below (by (with_reducible repeat (first | apply Kd.R_alloc | apply Kd.R_drewN | apply Kd.R_drew)); exact HO116.out) hb); have n2_ := Aside0.mk (below_step (by repeat (first | (with_reducible first | exact HB.out | apply below_alloc | apply pw_below_drewN | apply below_drew1) | exact HB.out)) hb); clear HO111; clear HO116; clear HB; have HO111 := n0_; have HO116 := n1_; have HB := n2_; clear n0_ n1_ n2_; (try clear hb); (try clear hb2); (try clear hk); (try clear hi)) | ((with_reducible refine gate_dst (N := 25) rfl ?_); refine Kd.R_lit (Kd.int .i64) _ 3 ?hg (N := 25) ?hd (xs := ([t117] : List Int)) (inner := [.int .i64 t117]) (ok := fun _ => True) (okp := fun _ => True) ?hr ?hp (fun _ hk => hk) trivial (Below.refl _ _) (Nat.le_refl _) (by simp) ?_; (case hd => rfl); (case hg => rfl); (case hr => first | (go_simp; done) | (go_simp; rfl)); (case hp => exact (Reps.one (show Kd.M (Kd.int .i64) _ _ _ t117 [.int .i64 t117] from rfl) (Reps.none _ _))); intro v119 w17 ho18 hb hg_ hnew_; clear hg_ hnew_; (first | rw [← Ny118.out] at ho18 | (simp only [Int.reduceToNat] at ho18; rw [← Ny118.out] at ho18)); have n0_ := Aside0.mk (Kd.R_elder' (by (with_reducible repeat (first | apply Kd.R_alloc | apply Kd.R_drewN | apply Kd.R_drew)); exact HO111.out) (Kd.R_base ho18) hb); have n1_ := Aside0.mk (Kd.R_elder' (by (with_reducible repeat (first | apply Kd.R_alloc | apply Kd.R_drewN | apply Kd.R_drew)); exact HO116.out) (Kd.R_base ho18) hb); have n2_ := Aside0.mk (Kd.R_lower (Kd.R_new' (Kd.R_new' ho18 (Kd.R_lt (by (with_reducible repeat (first | apply Kd.R_alloc | apply Kd.R_drewN | apply Kd.R_drew)); exact HO111.out))) (Kd.R_lt (by (with_reducible repeat (first | apply Kd.R_alloc | apply Kd.R_drewN | apply Kd.R_drew)); exact HO116.out))) (below_size (by repeat (first | (with_reducible first | exact HB.out | apply below_alloc | apply pw_below_drewN | apply below_drew1) | exact HB.out)))); have n3_ := Aside0.mk (below_step (by repeat (first | (with_reducible first | exact HB.out | apply below_alloc | apply pw_below_drewN | apply below_drew1) | exact HB.out)) hb); clear HO111; clear HO116; clear HB; have HO111 := n0_; have HO116 := n1_; have HO120 := n2_; have HB := n3_; clear n0_ n1_ n2_ n3_; clear hb ho18; obtain ⟨Ao19, co19, eo19⟩ := Kd.R_slice HO120.out; subst eo19) | ((with_reducible refine gate_callee (f := 20) rfl ?_); refine goesL_ (some 26) rfl rfl Try.func20 (by kernel_rfl) rfl #[.slice Ao19 y118.length co19] rfl (by (try simp only [List.map_toArray, List.map_cons, List.map_nil]); first | done | rfl | (simp only [List.length_drop, List.length_take]; rfl)) ?_; (with_reducible refine (reclaim_inRange.calls k _ _ y118 true _ ?side1 ?side2 A8.out).mono ?_); (case side1 => repeat (first | exact (Kd.R_reads' HO120.out).2.2 | (with_reducible refine Kd.C_alloc ?_ _) | (with_reducible refine Kd.C_drewN ?_ _) | (with_reducible refine Kd.C_drew ?_))); (case side2 => exact (Kd.R_reads' HO120.out).2.1); rintro e w' ⟨rfl, ⟨nd, rfl⟩⟩; refine ⟨_, rfl, ?_⟩))
      go_ret2
      exact ⟨by first | rfl | (simp [errW_none, errW_some] <;> rfl) | (simp [*, errW_none, errW_some] <;> rfl), by repeat (first | (with_reducible first | exact HB.out | apply below_alloc | apply pw_below_drewN | apply below_drew1) | exact HB.out)⟩
    · replace c9 := Bool.eq_false_iff.mpr c9
      subst c9
      have H1 : (some (0, 3)) = some (r1, r2) := by rw [if_neg (show ¬ (false = true) by decide)] at H; exact H
      clear H
      have H := H1
      clear H1
      simp only [Option.some.injEq, Prod.mk.injEq] at H
      obtain ⟨rfl, rfl⟩ := H
      go_enter Try.func17, Try.ntmps17
      go_wp2_with (first | ((with_reducible refine gate_dst (N := 12) rfl ?_); refine Kd.R_lit (Kd.int .i64) _ 3 ?hg (N := 12) ?hd (xs := ([a0, a1, a2] : List Int)) (inner := [.int .i64 a0, .int .i64 a1, .int .i64 a2]) (ok := fun _ => True) (okp := fun _ => True) ?hr ?hp (fun _ hk => hk) trivial (Below.refl _ _) (Nat.le_refl _) (by simp) ?_; (case hd => rfl); (case hg => rfl); (case hr => first | (go_simp; done) | (go_simp; rfl)); (case hp => exact (Reps.one (show Kd.M (Kd.int .i64) _ _ _ a0 [.int .i64 a0] from rfl) (Reps.one (show Kd.M (Kd.int .i64) _ _ _ a1 [.int .i64 a1] from rfl) (Reps.one (show Kd.M (Kd.int .i64) _ _ _ a2 [.int .i64 a2] from rfl) (Reps.none _ _))))); intro v110 w20 ho21 hb hg_ hnew_; clear hg_ hnew_; (first | rw [← Ny109.out] at ho21 | (simp only [Int.reduceToNat] at ho21; rw [← Ny109.out] at ho21)); have n0_ := Aside0.mk (Kd.R_lower ho21 (below_size (by repeat (first | (with_reducible first | exact HB.out | apply below_alloc | apply pw_below_drewN | apply below_drew1) | exact HB.out)))); have n1_ := Aside0.mk (below_step (by repeat (first | (with_reducible first | exact HB.out | apply below_alloc | apply pw_below_drewN | apply below_drew1) | exact HB.out)) hb); clear HB; have HO111 := n0_; have HB := n1_; clear n0_ n1_; clear hb ho21; obtain ⟨Ao22, co22, eo22⟩ := Kd.R_slice HO111.out; subst eo22) | ((with_reducible refine gate_callee (f := 20) rfl ?_); refine goesL_ (some 13) rfl rfl Try.func20 (by kernel_rfl) rfl #[.slice Ao22 y109.length co22] rfl (by (try simp only [List.map_toArray, List.map_cons, List.map_nil]); first | done | rfl | (simp only [List.length_drop, List.length_take]; rfl)) ?_; (with_reducible refine (reclaim_inRange.calls k _ _ y109 true _ ?side1 ?side2 A4.out).mono ?_); (case side1 => repeat (first | exact (Kd.R_reads' HO111.out).2.2 | (with_reducible refine Kd.C_alloc ?_ _) | (with_reducible refine Kd.C_drewN ?_ _) | (with_reducible refine Kd.C_drew ?_))); (case side2 => exact (Kd.R_reads' HO111.out).2.1); rintro e w' ⟨rfl, ⟨nd, rfl⟩⟩; refine ⟨_, rfl, ?_⟩) | ((with_reducible refine gate_callee (f := 22) rfl ?_); refine goesL_ (some 20) rfl rfl Try.func22 (by kernel_rfl) rfl #[.int .i64 a2] rfl (by (try simp only [List.map_toArray, List.map_cons, List.map_nil]); first | done | rfl | (simp only [List.length_drop, List.length_take]; rfl)) ?_; (with_reducible refine (reclaim_part.calls k a2 t113 _ A6.out).mono ?_); rintro e w' ⟨rfl, ⟨nd, rfl⟩⟩; refine ⟨_, rfl, ?_⟩) | ((with_reducible refine gate_dst (N := 22) rfl ?_); refine Kd.R_lit (Kd.int .i64) _ 3 ?hg (N := 22) ?hd (xs := ([wrap64 (a0 - a1), wrap64 (a2 - t113)] : List Int)) (inner := [.int .i64 (wrap64 (a0 - a1)), .int .i64 (wrap64 (a2 - t113))]) (ok := fun _ => True) (okp := fun _ => True) ?hr ?hp (fun _ hk => hk) trivial (Below.refl _ _) (Nat.le_refl _) (by simp) ?_; (case hd => rfl); (case hg => rfl); (case hr => first | (go_simp; done) | (go_simp; rfl)); (case hp => exact (Reps.one (show Kd.M (Kd.int .i64) _ _ _ (wrap64 (a0 - a1)) [.int .i64 (wrap64 (a0 - a1))] from rfl) (Reps.one (show Kd.M (Kd.int .i64) _ _ _ (wrap64 (a2 - t113)) [.int .i64 (wrap64 (a2 - t113))] from rfl) (Reps.none _ _)))); intro v115 w23 ho24 hb hg_ hnew_; clear hg_ hnew_; (first | rw [← Ny114.out] at ho24 | (simp only [Int.reduceToNat] at ho24; rw [← Ny114.out] at ho24)); have n0_ := Aside0.mk (Kd.R_elder' (by (with_reducible repeat (first | apply Kd.R_alloc | apply Kd.R_drewN | apply Kd.R_drew)); exact HO111.out) (Kd.R_base ho24) hb); have n1_ := Aside0.mk (Kd.R_lower (Kd.R_new' ho24 (Kd.R_lt (by (with_reducible repeat (first | apply Kd.R_alloc | apply Kd.R_drewN | apply Kd.R_drew)); exact HO111.out))) (below_size (by repeat (first | (with_reducible first | exact HB.out | apply below_alloc | apply pw_below_drewN | apply below_drew1) | exact HB.out)))); have n2_ := Aside0.mk (below_step (by repeat (first | (with_reducible first | exact HB.out | apply below_alloc | apply pw_below_drewN | apply below_drew1) | exact HB.out)) hb); clear HO111; clear HB; have HO111 := n0_; have HO116 := n1_; have HB := n2_; clear n0_ n1_ n2_; clear hb ho24; obtain ⟨Ao25, co25, eo25⟩ := Kd.R_slice HO116.out; subst eo25) | ((with_reducible refine gate_callee (f := 23) rfl ?_); refine goesL_ (some 23) rfl rfl Try.func23 (by kernel_rfl) rfl #[.int .i64 0, .slice Ao25 y114.length co25] rfl (by (try simp only [List.map_toArray, List.map_cons, List.map_nil]); first | done | rfl | (simp only [List.length_drop, List.length_take]; rfl)) ?_; (with_reducible refine (reclaim_greatest_int.calls k 0 _ _ y114 t117 _ ?side1 ?side2 A7.out).mono ?_); (case side1 => repeat (first | exact (Kd.R_reads' HO116.out).2.2 | (with_reducible refine Kd.C_alloc ?_ _) | (with_reducible refine Kd.C_drewN ?_ _) | (with_reducible refine Kd.C_drew ?_))); (case side2 => exact (Kd.R_reads' HO116.out).2.1); rintro e w26 ⟨rfl, hb⟩; refine ⟨_, rfl, ?_⟩; have n0_ := Aside0.mk (Kd.R_below (by (with_reducible repeat (first | apply Kd.R_alloc | apply Kd.R_drewN | apply Kd.R_drew)); exact HO111.out) hb); have n1_ := Aside0.mk (Kd.R_below (by (with_reducible repeat (first | apply Kd.R_alloc | apply Kd.R_drewN | apply Kd.R_drew)); exact HO116.out) hb); have n2_ := Aside0.mk (below_step (by repeat (first | (with_reducible first | exact HB.out | apply below_alloc | apply pw_below_drewN | apply below_drew1) | exact HB.out)) hb); clear HO111; clear HO116; clear HB; have HO111 := n0_; have HO116 := n1_; have HB := n2_; clear n0_ n1_ n2_; (try clear hb); (try clear hb2); (try clear hk); (try clear hi)) | ((with_reducible refine gate_dst (N := 25) rfl ?_); refine Kd.R_lit (Kd.int .i64) _ 3 ?hg (N := 25) ?hd (xs := ([t117] : List Int)) (inner := [.int .i64 t117]) (ok := fun _ => True) (okp := fun _ => True) ?hr ?hp (fun _ hk => hk) trivial (Below.refl _ _) (Nat.le_refl _) (by simp) ?_; (case hd => rfl); (case hg => rfl); (case hr => first | (go_simp; done) | (go_simp; rfl)); (case hp => exact (Reps.one (show Kd.M (Kd.int .i64) _ _ _ t117 [.int .i64 t117] from rfl) (Reps.none _ _))); intro v119 w27 ho28 hb hg_ hnew_; clear hg_ hnew_; (first | rw [← Ny118.out] at ho28 | (simp only [Int.reduceToNat] at ho28; rw [← Ny118.out] at ho28)); have n0_ := Aside0.mk (Kd.R_elder' (by (with_reducible repeat (first | apply Kd.R_alloc | apply Kd.R_drewN | apply Kd.R_drew)); exact HO111.out) (Kd.R_base ho28) hb); have n1_ := Aside0.mk (Kd.R_elder' (by (with_reducible repeat (first | apply Kd.R_alloc | apply Kd.R_drewN | apply Kd.R_drew)); exact HO116.out) (Kd.R_base ho28) hb); have n2_ := Aside0.mk (Kd.R_lower (Kd.R_new' (Kd.R_new' ho28 (Kd.R_lt (by (with_reducible repeat (first | apply Kd.R_alloc | apply Kd.R_drewN | apply Kd.R_drew)); exact HO111.out))) (Kd.R_lt (by (with_reducible repeat (first | apply Kd.R_alloc | apply Kd.R_drewN | apply Kd.R_drew)); exact HO116.out))) (below_size (by repeat (first | (with_reducible first | exact HB.out | apply below_alloc | apply pw_below_drewN | apply below_drew1) | exact HB.out)))); have n3_ := Aside0.mk (below_step (by repeat (first | (with_reducible first | exact HB.out | apply below_alloc | apply pw_below_drewN | apply below_drew1) | exact HB.out)) hb); clear HO111; clear HO116; clear HB; have HO111 := n0_; have HO116 := n1_; have HO120 := n2_; have HB := n3_; clear n0_ n1_ n2_ n3_; clear hb ho28; obtain ⟨Ao29, co29, eo29⟩ := Kd.R_slice HO120.out; subst eo29) | ((with_reducible refine gate_callee (f := 20) rfl ?_); refine goesL_ (some 26) rfl rfl Try.func20 (by kernel_rfl) rfl #[.slice Ao29 y118.length co29] rfl (by (try simp only [List.map_toArray, List.map_cons, List.map_nil]); first | done | rfl | (simp only [List.length_drop, List.length_take]; rfl)) ?_; (with_reducible refine (reclaim_inRange.calls k _ _ y118 false _ ?side1 ?side2 A8.out).mono ?_); (case side1 => repeat (first | exact (Kd.R_reads' HO120.out).2.2 | (with_reducible refine Kd.C_alloc ?_ _) | (with_reducible refine Kd.C_drewN ?_ _) | (with_reducible refine Kd.C_drew ?_))); (case side2 => exact (Kd.R_reads' HO120.out).2.1); rintro e w' ⟨rfl, ⟨nd, rfl⟩⟩; refine ⟨_, rfl, ?_⟩))
      go_ret2
      exact ⟨by first | rfl | (simp [errW_none, errW_some] <;> rfl) | (simp [*, errW_none, errW_some] <;> rfl), by repeat (first | (with_reducible first | exact HB.out | apply below_alloc | apply pw_below_drewN | apply below_drew1) | exact HB.out)⟩
  · replace c5 := Bool.eq_false_iff.mpr c5
    subst c5
    have H1 : (some (0, 3)) = some (r1, r2) := by rw [if_neg (show ¬ (false = true) by decide)] at H; exact H
    clear H
    have H := H1
    clear H1
    simp only [Option.some.injEq, Prod.mk.injEq] at H
    obtain ⟨rfl, rfl⟩ := H
    go_enter Try.func17, Try.ntmps17
    go_wp2_with (first | ((with_reducible refine gate_dst (N := 12) rfl ?_); refine Kd.R_lit (Kd.int .i64) _ 3 ?hg (N := 12) ?hd (xs := ([a0, a1, a2] : List Int)) (inner := [.int .i64 a0, .int .i64 a1, .int .i64 a2]) (ok := fun _ => True) (okp := fun _ => True) ?hr ?hp (fun _ hk => hk) trivial (Below.refl _ _) (Nat.le_refl _) (by simp) ?_; (case hd => rfl); (case hg => rfl); (case hr => first | (go_simp; done) | (go_simp; rfl)); (case hp => exact (Reps.one (show Kd.M (Kd.int .i64) _ _ _ a0 [.int .i64 a0] from rfl) (Reps.one (show Kd.M (Kd.int .i64) _ _ _ a1 [.int .i64 a1] from rfl) (Reps.one (show Kd.M (Kd.int .i64) _ _ _ a2 [.int .i64 a2] from rfl) (Reps.none _ _))))); intro v110 w30 ho31 hb hg_ hnew_; clear hg_ hnew_; (first | rw [← Ny109.out] at ho31 | (simp only [Int.reduceToNat] at ho31; rw [← Ny109.out] at ho31)); have n0_ := Aside0.mk (Kd.R_lower ho31 (below_size (by repeat (first | (with_reducible first | exact HB.out | apply below_alloc | apply pw_below_drewN | apply below_drew1) | exact HB.out)))); have n1_ := Aside0.mk (below_step (by repeat (first | (with_reducible first | exact HB.out | apply below_alloc | apply pw_below_drewN | apply below_drew1) | exact HB.out)) hb); clear HB; have HO111 := n0_; have HB := n1_; clear n0_ n1_; clear hb ho31; obtain ⟨Ao32, co32, eo32⟩ := Kd.R_slice HO111.out; subst eo32) | ((with_reducible refine gate_callee (f := 20) rfl ?_); refine goesL_ (some 13) rfl rfl Try.func20 (by kernel_rfl) rfl #[.slice Ao32 y109.length co32] rfl (by (try simp only [List.map_toArray, List.map_cons, List.map_nil]); first | done | rfl | (simp only [List.length_drop, List.length_take]; rfl)) ?_; (with_reducible refine (reclaim_inRange.calls k _ _ y109 false _ ?side1 ?side2 A4.out).mono ?_); (case side1 => repeat (first | exact (Kd.R_reads' HO111.out).2.2 | (with_reducible refine Kd.C_alloc ?_ _) | (with_reducible refine Kd.C_drewN ?_ _) | (with_reducible refine Kd.C_drew ?_))); (case side2 => exact (Kd.R_reads' HO111.out).2.1); rintro e w' ⟨rfl, ⟨nd, rfl⟩⟩; refine ⟨_, rfl, ?_⟩))
    go_ret2
    exact ⟨by first | rfl | (simp [errW_none, errW_some] <;> rfl) | (simp [*, errW_none, errW_some] <;> rfl), by repeat (first | (with_reducible first | exact HB.out | apply below_alloc | apply pw_below_drewN | apply below_drew1) | exact HB.out)⟩

-- NOT PRINTED: function 19 (reclaim_Fold_1)

/-! ### reclaim_Fold: function 10 (by hand) -/
def reclaim_Fold.l0 : Nat → List Int → List Int → List Int → Int → Int → Option (List Int × Int)
  | 0, _, _, _, _, _ => none
  | k + 1, x0, x1, y, p, i => if i < (x0.length : Int) then (if 0 ≤ i then (if i < (x1.length : Int) then (if i < (y.length : Int) then ((reclaim_Next.f k (rd x0 i) p (rd x1 i)).bind fun t => (if t.2 = 0 then ((reclaim_inRange.f k [wrap64 (p + t.1)]).bind fun b => (if b = true then (reclaim_Fold.l0 k x0 x1 (y.set i.toNat (wrap64 (p + t.1))) (wrap64 (p + t.1)) (wrap64 (i + 1))) else (some (([] : List Int), 3)))) else (some (([] : List Int), 3)))) else none) else none) else none) else (some (y, 0))
def reclaim_Fold.f (k : Nat) (l0 l1 : List Int) : Option (List Int × Int) := if (l0.length : Int) = (l1.length : Int) then (if (l0.length : Int) > 600 then (some (([] : List Int), 2)) else (reclaim_Fold.l0 k l0 l1 (List.replicate l0.length 0) 0 0)) else (some (([] : List Int), 1))
theorem reclaim_Fold.mono_l : ∀ k, (∀ y0 y1 y2 y3 y4, LeO (reclaim_Fold.l0 k y0 y1 y2 y3 y4) (reclaim_Fold.l0 (k + 1) y0 y1 y2 y3 y4))
  | 0 => fun _ _ _ _ _ r h => by simp [reclaim_Fold.l0] at h
  | k + 1 => by
    have ih0 := reclaim_Fold.mono_l k
    · intro y0 y1 y2 y3 y4
      unfold reclaim_Fold.l0
      repeat' first
      | (with_reducible exact ih0 _ _ _ _ _)
      | (with_reducible exact reclaim_Next.mono _ _ _ _)
      | (with_reducible exact reclaim_inRange.mono _ _)
      | (with_reducible exact LeO.refl _)
      | (with_reducible exact LeO.none _)
      | (with_reducible refine LeO.ite ?_ ?_)
      | (with_reducible refine LeO.bind ?_ (fun _ => ?_))
      | exact ih0 _ _ _ _ _
      | exact reclaim_Next.mono _ _ _ _
      | exact reclaim_inRange.mono _ _
      | exact LeO.none _
      | refine LeO.ite ?_ ?_
      | refine LeO.bind ?_ (fun _ => ?_)
theorem reclaim_Fold.mono : ∀ a0 a1 k, LeO (reclaim_Fold.f k a0 a1) (reclaim_Fold.f (k + 1) a0 a1) := by
  intro a0 a1 k
  have ih0 := reclaim_Fold.mono_l k
  unfold reclaim_Fold.f
  repeat' first
      | (with_reducible exact ih0 _ _ _ _ _)
      | (with_reducible exact reclaim_Next.mono _ _ _ _)
      | (with_reducible exact reclaim_inRange.mono _ _)
      | (with_reducible exact LeO.refl _)
      | (with_reducible exact LeO.none _)
      | (with_reducible refine LeO.ite ?_ ?_)
      | (with_reducible refine LeO.bind ?_ (fun _ => ?_))
      | exact ih0 _ _ _ _ _
      | exact reclaim_Next.mono _ _ _ _
      | exact reclaim_inRange.mono _ _
      | exact LeO.none _
      | refine LeO.ite ?_ ?_
      | refine LeO.bind ?_ (fun _ => ?_)

/-- The closure: what is due and the net amounts lie in blocks bd and bn, what is paid in bp. -/
theorem reclaim_Fold.step (k : Nat) (A0 A1 : Option Addr) (c0 c1 : Nat) (l0 l1 : List Int) (i p t1 t2 : Int) (b : Bool) (bd bp bn : Nat) (w : World)
    (hd : w.heap[bd]? = some (.cells #[.slice A0 l0.length c0] 22 (0, 0))) (hn : w.heap[bn]? = some (.cells #[.slice A1 l1.length c1] 22 (0, 0)))
    (hp : w.heap[bp]? = some (.cells #[.int .i64 p] 3 (0, 0))) (hdp : bd ≠ bp) (hnp : bn ≠ bp)
    (hr0 : Kd.C (Kd.int .i64) w A0 l0.length l0) (hr1 : Kd.C (Kd.int .i64) w A1 l1.length l1) (h0 : 0 ≤ i) (hi0 : i < (l0.length : Int)) (hi1 : i < (l1.length : Int))
    (hN : reclaim_Next.f k (rd l0 i) p (rd l1 i) = some (t1, t2)) (hI : t2 = 0 → reclaim_inRange.f k [wrap64 (p + t1)] = some b) :
    Calls Try.prog 19 #[.int .i64 i, .pointer (some ⟨bd, 0, none⟩), .pointer (some ⟨bp, 0, none⟩), .pointer (some ⟨bn, 0, none⟩)] w fun e w' =>
      e = .returned (.bool (t2 == 0 && b)) ∧ w'.heap[bp]? = some (.cells #[.int .i64 (wrap64 (p + t1))] 3 (0, 0)) ∧ w.grownBy w' (some bp) := by
  obtain ⟨ad0, e0, hx0⟩ := Kd.at_int hr0 i h0 hi0
  obtain ⟨ad1, e1, hx1⟩ := Kd.at_int hr1 i h0 hi1
  subst e0 e1
  have cd := cell_of_one hd
  have cn := cell_of_one hn
  have cp := cell_of_one hp
  have fp := free_of_one hp
  have p0 := eq_true h0
  have q0 := eq_true hi0
  have q1 := eq_true hi1
  have HN := Aside0.mk hN
  have HI := Aside0.mk hI
  have HP := Aside0.mk hp
  clear hN hI hr0 hr1 h0 hi0 hi1 hd hn hp
  go_enter Try.func19, Try.ntmps19
  go_wp2_with fail
  go_region_held3 (fun w' => w'.cell? ⟨bd, 0, none⟩ = some (.slice (some ad0) l0.length c0) ∧ w'.cell? ⟨bn, 0, none⟩ = some (.slice (some ad1) l1.length c1) ∧ w'.cell? ⟨bp, 0, none⟩ = some (.int .i64 p) ∧ w'.cell? (ad0.add i.toNat) = some (.int .i64 (rd l0 i)) ∧ w'.cell? (ad1.add i.toNat) = some (.int .i64 (rd l1 i)))
    (first | go_keep | exact ⟨pw_cell_below hb1 (by first | exact cd | simpa using cd), pw_cell_below hb1 (by first | exact cn | simpa using cn), pw_cell_below hb1 (by first | exact cp | simpa using cp), pw_cell_below hb1 (by first | exact hx0 | simpa using hx0), pw_cell_below hb1 (by first | exact hx1 | simpa using hx1)⟩)
    (first | (go_at_call 17; refine (reclaim_Next.calls k (rd l0 i) p (rd l1 i) t1 t2 _ HN.out).mono ?_; rintro e w1 ⟨rfl, hb1⟩))
  rename_i hH
  obtain ⟨g1, g2, g3, g4, g5⟩ := hH
  have fp1 : w1.frozen? ⟨bp, 0, none⟩ = false := (hb1.frozen (p := ⟨bp, 0, none⟩) (by simpa using lt_of_block HP.out)).trans (by simpa using fp)
  have HP1 := Aside0.mk (one_below (w := w.drew) (by exact HP.out) hb1)
  have HB1 := Aside0.mk hb1
  clear hb1 hx0 hx1 cd cn cp fp g1 g2 g4 g5
  by_cases hz : t2 = 0
  · have HI' := Aside0.mk (HI.out hz)
    subst hz
    go_wp2_with fail
    refine (reclaim_inRange.calls k _ _ [wrap64 (p + t1)] b _ ?_ (by simp) HI'.out).mono ?_
    · exact C_lit _ .i64 [wrap64 (p + t1)] 3 _ (by simp [World.setCell]) _ rfl (by simp)
    rintro e w2 ⟨rfl, ⟨nd, rfl⟩⟩
    go_wp2_with fail
    go_ret
    have hg : w.grownBy w1 (some bp) := ⟨HB1.out.os, HB1.out.tape, HB1.out.output, HB1.out.size, fun i hi _ => HB1.out.block i hi⟩
    exact ⟨by simp, one_alloc (one_setCell HP1.out) _, grownBy_then_drewN (grownBy_then (grownBy_set hg 0 _) (below_alloc (Below.refl _ _) _)) nd⟩
  · have hz1 : (t2 == 0) = false := beq_eq_false_iff_ne.mpr hz
    clear hz HI
    go_wp2_with fail
    go_ret
    have hg : w.grownBy w1 (some bp) := ⟨HB1.out.os, HB1.out.tape, HB1.out.output, HB1.out.size, fun i hi _ => HB1.out.block i hi⟩
    exact ⟨by simp [hz1], one_setCell HP1.out, grownBy_set hg 0 _⟩
set_option maxHeartbeats 8000000 in
set_option maxRecDepth 100000 in
theorem reclaim_Fold.calls (k : Nat) (A0 : Option Addr) (c0 : Nat) (l0 : List Int) (A1 : Option Addr) (c1 : Nat) (l1 : List Int) (r1 : List Int) (r2 : Int) (w : World) (hr0 : Kd.C (Kd.int .i64) w A0 l0.length l0) (hc0 : l0.length ≤ c0) (hr1 : Kd.C (Kd.int .i64) w A1 l1.length l1) (hc1 : l1.length ≤ c1) (h : reclaim_Fold.f k l0 l1 = some (r1, r2)) :
    Calls Try.prog 10 #[.slice A0 l0.length c0, .slice A1 l1.length c1] w fun e w' => ∃ v0_ : Value, e = .returned (.tuple #[v0_, .int .i64 r2]) ∧ Kd.R (Kd.int .i64) 3 w' w.heap.size (fun _ => True) v0_ r1 ∧ Below w.heap.size w w' := by
  have hmf : ∀ (fn : Fn) (first cap : Array Value) (w : World), (Instr.makeFunc fn first cap).run Try.prog w = .ok (.func fn first cap) w := fun _ _ _ _ => rfl
  have HR0 := Aside0.mk hr0
  have HR1 := Aside0.mk hr1
  clear hr0 hr1
  unfold reclaim_Fold.f at h
  by_cases c1 : (l0.length : Int) = (l1.length : Int)
  · rw [if_pos c1] at h
    have c1b0 : ((l0.length : Int) == (l1.length : Int)) = true := beq_iff_eq.mpr c1
    have c1b1 : ((l0.length : Int) != (l1.length : Int)) = false := bne_eq_false_iff_eq.mpr c1
    have c1b2 : (l0.length == l1.length) = true := by simp; omega
    have c1b3 : (l0.length != l1.length) = false := by simp; omega
    by_cases c2 : (l0.length : Int) > 600
    · rw [if_pos c2] at h
      simp only [Option.some.injEq, Prod.mk.injEq] at h
      obtain ⟨rfl, rfl⟩ := h
      have c2b0 : decide (600 < (l0.length : Int)) = true := decide_eq_true c2
      have c2b1 : decide (600 < l0.length) = true := decide_eq_true (by omega)
      clear c1 c2
      go_enter Try.func10, Try.ntmps10
      go_wp2
      go_ret2
      exact ⟨_, rfl, Kd.R_nil _ _ _ _ _, by repeat (first | exact Below.refl _ _ | apply below_alloc)⟩
    · rw [if_neg c2] at h
      have H := Aside0.mk h
      have hlen : l0.length ≤ 600 := by omega
      have hlen1 : l1.length = l0.length := by omega
      have c2b0 : decide (600 < (l0.length : Int)) = false := decide_eq_false c2
      have c2b1 : decide (600 < l0.length) = false := decide_eq_false (by omega)
      clear h c1 c2
      have HL1 := Aside0.mk hlen1
      clear hlen1
      have hmk := print_make (P := Try.prog) 22 3 .i64 8 Try.underlying22 info3 (by decide) l0.length (by omega)
      go_enter Try.func10, Try.ntmps10
      go_wp2
      go_loopg [26] k (fun kq v26 wr => ∃ (y : List Int) (p i : Int), v26 = .int .i64 i ∧ Aside0 (reclaim_Fold.l0 kq l0 l1 y p i = some (r1, r2)) ∧ Aside0 (kq ≤ k) ∧ Aside0 (y.length = l0.length) ∧ Aside0 (wr.heap[w.heap.size]? = some (.cells #[.slice A0 l0.length c0] 22 (0, 0))) ∧ Aside0 (wr.heap[w.heap.size + 1]? = some (.cells #[.slice A1 l1.length c1] 22 (0, 0))) ∧ Aside0 (wr.heap[w.heap.size + 1 + 1]? = some (.cells #[.int .i64 p] 3 (0, 0))) ∧ Aside0 (Kd.R (Kd.int .i64) 3 wr (w.heap.size + 1 + 1 + 1) (fun _ => True) (.slice (some ⟨w.heap.size + 1 + 1 + 1, 0, none⟩) l0.length l0.length) y) ∧ Aside0 (Below w.heap.size w wr))
      case atStart =>
        refine ⟨List.replicate l0.length 0, 0, 0, rfl, H, ⟨Nat.le_refl _⟩, ⟨by simp⟩, ⟨?_⟩, ⟨?_⟩, ⟨?_⟩, ⟨?_⟩, ⟨?_⟩⟩
        · exact one_alloc (one_alloc (one_alloc (heap_alloc_new w _) _) _) _
        · have := one_alloc (one_alloc (heap_alloc_new (w.alloc (.cells #[.slice A0 l0.length c0] 22)) (.cells #[.slice A1 l1.length c1] 22)) (.cells #[.int .i64 0] 3)) (.cells (madeCells #[.int .i64 0] l0.length) 3)
          simpa using this
        · have := one_alloc (heap_alloc_new ((w.alloc (.cells #[.slice A0 l0.length c0] 22)).alloc (.cells #[.slice A1 l1.length c1] 22)) (.cells #[.int .i64 0] 3)) (.cells (madeCells #[.int .i64 0] l0.length) 3)
          simpa using this
        · have := own_made (((w.alloc (.cells #[.slice A0 l0.length c0] 22)).alloc (.cells #[.slice A1 l1.length c1] 22)).alloc (.cells #[.int .i64 0] 3)) (w.heap.size + 1 + 1 + 1) 3 .i64 l0.length (by simp) (by omega)
          exact Kd.R_of_own (by simpa [nums, encs] using this) (fun _ _ => trivial)
        · exact below_alloc (below_alloc (below_alloc (below_alloc (Below.refl _ _) _) _) _) _
      case round =>
        clear H
        obtain ⟨y, p, i, rfl, HA, HK1, HY, HD, HN, HP, HR, HB⟩ := hrel
        cases gk with
        | zero => exact absurd HA.out (by simp [reclaim_Fold.l0])
        | succ k1 =>
          have h := HA.out
          clear HA
          simp only [reclaim_Fold.l0] at h
          have cd := cell_of_one HD.out
          have cn := cell_of_one HN.out
          by_cases c3 : i < (l0.length : Int)
          · rw [if_pos c3] at h
            by_cases c4 : 0 ≤ i
            · rw [if_pos c4] at h
              by_cases c5 : i < (l1.length : Int)
              · rw [if_pos c5] at h
                by_cases c6 : i < (y.length : Int)
                · rw [if_pos c6] at h
                  have h2 := Option.bind_eq_some_iff.mp h
                  clear h
                  obtain ⟨⟨t1, t2⟩, hN, h⟩ := h2
                  dsimp only at h
                  have hr0 : Kd.C (Kd.int .i64) wr A0 l0.length l0 := Kd.C_below HR0.out HB.out
                  have hr1 : Kd.C (Kd.int .i64) wr A1 l1.length l1 := Kd.C_below HR1.out HB.out
                  have S := reclaim_Fold.step k1 A0 A1 c0 c1 l0 l1 i p t1 t2
                  by_cases c7 : t2 = 0
                  · rw [if_pos c7] at h
                    subst c7
                    have h2 := Option.bind_eq_some_iff.mp h
                    clear h
                    obtain ⟨b, hI, h⟩ := h2
                    have S1 := S b w.heap.size (w.heap.size + 1 + 1) (w.heap.size + 1) wr HD.out HN.out HP.out (by omega) (by omega) hr0 hr1 c4 c3 c5 hN (fun _ => hI)
                    cases b with
                    | true =>
                      rw [if_pos rfl, show wrap64 (i + 1) = i + 1 by unfold wrap64; omega] at h
                      have H := Aside0.mk h
                      have SS := Aside0.mk S1
                      have yl := HY.out
                      have hi : i < (y.length : Int) := c6
                      clear h S S1 hr0 hr1 hN hI c5 c6
                      have p4 := eq_true c4
                      have q3 := eq_true c3
                      go_wp2_with (go_at_call 19; (with_reducible refine SS.out.mono ?_); rintro e w2 ⟨rfl, hp2, hg2⟩; have hR2 := Aside0.mk (Kd.R_mono (ok' := fun _ => True) (Kd.R_grown (Kd.R_bound HR.out) hg2 (fun q hq e => by have := hq.2.1; injection e; omega)) (fun _ _ => trivial)); have hc2 := Kd.R_cell (0 : Int) (xs := y) (cap := l0.length) (by rw [HY.out]; exact hR2.out) i c4 hi; have hf2 := hc2.2; have hx2 := hc2.1; have cp2 := cell_of_one hp2; have hp2' := Aside0.mk hp2; clear hp2 hc2)
                      go_roundg k1
                      case measure => have := HK1.out; omega
                      case rel => exact ⟨y.set i.toNat (wrap64 (p + t1)), wrap64 (p + t1), i + 1, rfl, H, ⟨by have := HK1.out; omega⟩, ⟨by simp [HY.out]⟩, ⟨one_far (one_grown HD.out hg2 (by intro e; injection e; omega)) (by simp; omega) _⟩, ⟨one_far (one_grown HN.out hg2 (by intro e; injection e; omega)) (by simp) _⟩, ⟨one_far hp2'.out (by simp) _⟩, ⟨by have := (Kd.R_put (xs := y) (cap := l0.length) (by rw [HY.out]; exact hR2.out) i (wrap64 (p + t1))).1; rw [HY.out] at this; exact this⟩, ⟨(HB.out.grown hg2 HB.out.size (fun q e => by injection e; omega)).setCell (by simp; omega) _⟩⟩
                    | false =>
                      rw [if_neg (by decide)] at h
                      simp only [Option.some.injEq, Prod.mk.injEq] at h
                      obtain ⟨rfl, rfl⟩ := h
                      have SS := Aside0.mk S1
                      clear S S1 hr0 hr1 hN hI c5 c6
                      have p4 := eq_true c4
                      have q3 := eq_true c3
                      go_wp2_with (go_at_call 19; (with_reducible refine SS.out.mono ?_); rintro e w2 ⟨rfl, hp2, hg2⟩; have hg2' := Aside0.mk hg2; clear hp2 hg2)
                      go_ret2
                      exact ⟨_, rfl, Kd.R_nil _ _ _ _ _, HB.out.grown hg2'.out HB.out.size (fun q e => by injection e; omega)⟩
                  · rw [if_neg c7] at h
                    have S1 := S true w.heap.size (w.heap.size + 1 + 1) (w.heap.size + 1) wr HD.out HN.out HP.out (by omega) (by omega) hr0 hr1 c4 c3 c5 hN (fun e => absurd e c7)
                    simp only [Option.some.injEq, Prod.mk.injEq] at h
                    obtain ⟨rfl, rfl⟩ := h
                    have z7 : (t2 == 0) = false := beq_eq_false_iff_ne.mpr c7
                    have SS := Aside0.mk S1
                    clear S S1 hr0 hr1 hN c5 c6 c7
                    have p4 := eq_true c4
                    have q3 := eq_true c3
                    go_wp2_with (go_at_call 19; (with_reducible refine SS.out.mono ?_); rintro e w2 ⟨rfl, hp2, hg2⟩; have hg2' := Aside0.mk hg2; clear hp2 hg2)
                    go_ret2
                    exact ⟨_, rfl, Kd.R_nil _ _ _ _ _, HB.out.grown hg2'.out HB.out.size (fun q e => by injection e; omega)⟩
                · rw [if_neg c6] at h
                  exact absurd h (by simp)
              · rw [if_neg c5] at h
                exact absurd h (by simp)
            · rw [if_neg c4] at h
              exact absurd h (by simp)
          · rw [if_neg c3] at h
            have c3b0 : decide (i < (l0.length : Int)) = false := decide_eq_false c3
            simp only [Option.some.injEq, Prod.mk.injEq] at h
            obtain ⟨rfl, rfl⟩ := h
            clear c3
            go_wp2
            go_ret2
            exact ⟨_, rfl, Kd.R_lower HR.out (by omega), HB.out⟩
  · rw [if_neg c1] at h
    simp only [Option.some.injEq, Prod.mk.injEq] at h
    obtain ⟨rfl, rfl⟩ := h
    have c1b0 : ((l0.length : Int) == (l1.length : Int)) = false := beq_eq_false_iff_ne.mpr c1
    have c1b1 : ((l0.length : Int) != (l1.length : Int)) = true := bne_iff_ne.mpr c1
    have c1b2 : (l0.length == l1.length) = false := by simp; omega
    have c1b3 : (l0.length != l1.length) = true := by simp; omega
    clear c1
    go_enter Try.func10, Try.ntmps10
    go_wp2
    go_ret2
    exact ⟨_, rfl, Kd.R_nil _ _ _ _ _, by repeat (first | exact Below.refl _ _ | apply below_alloc)⟩

end Go.Proofs.Ytpgghakjbghagaa.Hp
