/- Loops over what slices.Backward returns: its rounds. -/
import Derived.Test.YtnenfgpjedddoaaGreatAIWalk
set_option linter.unusedVariables false
set_option linter.unusedSectionVars false
set_option linter.unusedSimpArgs false
namespace Go.Proofs.YtnenfgpjedddoaaGreat.AI
open Go

variable {K : Type} [DecidableEq K] {T : K → Type} {E : Env T} {P : Program}

section
variable {y : Value} {st : List (Ob T)} {ga : Gh} {wa : World} {g : Gh} {w : World} {tG : Array Value} {fr : Fr T} {G : Nat} {e : K} {cs : List Frame} {i : Nat}
theorem fr13 {a b : V T} (h : FrOk E g fr tG) (h1 : Fr.get fr 1 = some a) (h3 : Fr.get fr 3 = some b) : FrOk E g [(1, some a), (3, some b)] tG := fun t v ht => by
  simp only [Fr.get] at ht
  split at ht
  · rename_i hb
    have := Nat.eq_of_beq_eq_true hb
    subst this
    cases ht
    exact h 1 _ h1
  · split at ht
    · rename_i hb
      have := Nat.eq_of_beq_eq_true hb
      subst this
      cases ht
      exact h 3 _ h3
    · cases ht
def BackFn.kB (B : BackFn P E G e) : List Go.Item := [.code (.seq (.block B.b1 (.seq (.region B.i3 B.r3 false) (.cond (.tmp 18) .ret .skip))) (.region B.i2 B.r2 false)), .inLoop B.loopBody, .inBlock B.b0]
def BackFn.kC (B : BackFn P E G e) : List Go.Item := [.code (.cond (.tmp 18) .ret .skip), .inBlock B.b1, .code (.region B.i2 B.r2 false), .inLoop B.loopBody, .inBlock B.b0]
/-- The head: is there an element still? -/
theorem walk_head (hE : EnvOk P E) (B : BackFn P E G e) (hs : GSt P E [0] y st ga wa g w tG fr) {x : Int} (hv : Fr.get fr 3 = some (.int .i64 x)) :
    ∃ g' w' tG', Steps P (lone (FH B tG) cs w) (lone (gf G tG' (.code (if decide (0 ≤ x) then .skip else .exit B.b0) :: B.kB)) cs w') ∧ GSt P E [0] y st ga wa g' w' tG' ((8, some (.bool (decide (0 ≤ x)))) :: (7, some (.int .i64 x)) :: fr) := by
  have hr : List.range B.r1.size = [0, 1] := by rw [B.s1.1]; rfl
  have h0 : Steps P (lone (FH B tG) cs w) (lone (gf G tG (.inRegion B.r1 [0, 1] :: .code (.cond (.tmp 8) .skip (.exit B.b0)) :: B.kB)) cs w) := by
    refine .head stepR_seq (.head stepR_seq (.head stepR_region ?_))
    rw [hr]
    exact .refl _ _
  obtain ⟨g1, w1, t1, st1, s1⟩ := g_mov (G := G) (rest := [1]) (k := .code (.cond (.tmp 8) .skip (.exit B.b0)) :: B.kB) (cs := cs) hE hs B.s1 (j := 0) rfl (by decide) (by decide) hv
  obtain ⟨g2, w2, t2, st2, s2⟩ := g_geq (G := G) (rest := []) (k := .code (.cond (.tmp 8) .skip (.exit B.b0)) :: B.kB) (cs := cs) hE s1 B.s1 (j := 1) (x := x) rfl (by decide) (by decide) rfl
  refine ⟨g2, w2, t2, ((h0.trans st1).trans st2).trans (.head stepR_region_end (.one (stepR_cond ?_))), s2⟩
  exact (evalO_ok (a := ⟨t2, []⟩) s2.fr (x := .tmp 8) rfl).bool_inv
/-- Up to the call of yield. -/
theorem walk_in (hE : EnvOk P E) (B : BackFn P E G e) (hs : GSt P E [0] y st ga wa g w tG fr) {cap : V T} {xs : List (T e)} {v : V T} (hfr : fr = [(1, some cap), (3, some (.int .i64 ((i : Int) - 1)))]) (hi : 0 < i) (hl : listAt e st cap = some xs) (hle : i ≤ xs.length) (hc : cut E (E.num e) (E.enc e (xs.getD (i - 1) (E.dflt e))) = some v) :
    ∃ g' w' tG' fr', Steps P (lone (FH B tG) cs w) (lone (FG B tG') cs w') ∧ GSt P E [0, 11] y st ga wa g' w' tG' fr' ∧ Fr.get fr' 1 = some cap ∧ Fr.get fr' 3 = some (.int .i64 ((i : Int) - 1)) ∧ Fr.get fr' 12 = some (.int .i64 ((i : Int) - 1)) ∧ Fr.get fr' 16 = some v := by
  subst hfr
  obtain ⟨g1, w1, t1, q1, s1⟩ := walk_head (cs := cs) hE B hs (x := (i : Int) - 1) rfl
  rw [if_pos (by rw [decide_eq_true_eq]; omega)] at q1
  have hr : List.range B.r3.size = [0, 1, 2, 3, 4, 5, 6, 7] := by rw [B.s3.1]; rfl
  have h0 : Steps P (lone (gf G t1 (.code .skip :: B.kB)) cs w1) (lone (gf G t1 (.inRegion B.r3 [0, 1, 2, 3, 4, 5, 6, 7] :: B.kC)) cs w1) := by
    refine .head stepR_skip (.head stepR_seq (.head stepR_block (.head stepR_seq (.head stepR_region ?_))))
    rw [hr]
    exact .refl _ _
  obtain ⟨t2, q2, s2⟩ := g_yield (G := G) (rest := [1, 2, 3, 4, 5, 6, 7]) (k := B.kC) (cs := cs) s1 B.s3 (j := 0) rfl (by decide) rfl (by decide)
  obtain ⟨g3, w3, t3, q3, s3⟩ := g_mov (G := G) (rest := [2, 3, 4, 5, 6, 7]) (k := B.kC) (cs := cs) hE s2 B.s3 (j := 1) (x := (i : Int) - 1) rfl (by decide) (by decide) rfl
  obtain ⟨ow, g4, w4, t4, q4, s4⟩ := g_list (G := G) (rest := [3, 4, 5, 6, 7]) (k := B.kC) (cs := cs) hE s3 B.s3 (j := 2) B.hts hl rfl (by decide) (by decide) rfl
  obtain ⟨g5, w5, t5, q5, s5⟩ := g_mov (G := G) (rest := [4, 5, 6, 7]) (k := B.kC) (cs := cs) hE s4 B.s3 (j := 3) (x := (i : Int) - 1) rfl (by decide) (by decide) rfl
  have hidx : Fr.get ((14, some (V.int IntKind.i64 ((i : Int) - 1))) :: (13, some (V.sl e xs ow)) :: (12, some (V.int IntKind.i64 ((i : Int) - 1))) :: (8, some (V.bool (decide (0 ≤ (i : Int) - 1)))) :: (7, some (V.int IntKind.i64 ((i : Int) - 1))) :: [(1, some cap), (3, some (V.int IntKind.i64 ((i : Int) - 1)))]) 14 = some (V.int IntKind.i64 ((i - 1 : Nat) : Int)) := by
    rw [show ((i - 1 : Nat) : Int) = (i : Int) - 1 by omega]
    rfl
  obtain ⟨g6, w6, t6, q6, s6⟩ := g_idx (G := G) (rest := [5, 6, 7]) (k := B.kC) (cs := cs) hE s5 B.s3 (j := 4) B.hts (i := i - 1) (by omega) rfl (by decide) (by decide) rfl hidx
  obtain ⟨g7, w7, t7, q7, s7⟩ := g_elem (G := G) (rest := [6, 7]) (k := B.kC) (cs := cs) hE s6 B.s3 (j := 5) hc rfl (by decide) (by decide) rfl
  exact ⟨g7, w7, t7, _, ((((((q1.trans h0).trans q2).trans q3).trans q4).trans q5).trans q6).trans q7, s7, rfl, rfl, rfl, rfl⟩
/-- The call of yield: a round. -/
theorem walk_yield (B : BackFn P E G e) {l : Nat} {rc : Loop} {v u : Value} (hr : w.heap[l]? = some (.loop rc)) (hps : rc.params.size = 2) (h11 : tG[11]? = some (.func (.yield l) #[] #[])) (h12 : tG[12]? = some v) (h16 : tG[16]? = some u) :
    Go.step P (lone (FG B tG) cs w) = .next (lone (Frame.round l rc.fn ((rc.params.zip #[v, u]).foldl (fun tmps (t, a) => tmps.setIfInBounds t a) rc.tmps) rc.assign rc.body .normal) (FG B tG :: cs) w) := by
  obtain ⟨o, k1, k2, k3, ts, k4⟩ := B.s3.at (j := 6) rfl
  have hwant : Region.wanted o (yielded B.r3 tG) = true := by
    unfold Region.wanted
    rw [k3]
  have hg := stepGR_op (P := P) (b := bf G) (a := ⟨tG, []⟩) (k := B.kC) (cs := cs) (w := w) (rest := [7]) k1 hwant
  rw [Oper.semAt_eq _ _ _ (fun c h => by rw [k4] at h; cases h)] at hg
  have e11 : (⟨tG, []⟩ : Act).eval (.tmp 11) = .func (.yield l) #[] #[] := by simp [Act.eval, Array.getD_eq_getD_getElem?, h11]
  have e12 : (⟨tG, []⟩ : Act).eval (.tmp 12) = v := by simp [Act.eval, Array.getD_eq_getD_getElem?, h12]
  have e16 : (⟨tG, []⟩ : Act).eval (.tmp 16) = u := by simp [Act.eval, Array.getD_eq_getD_getElem?, h16]
  have hy := run_yield (P := P) (args := #[v, u]) hr (by rw [hps]; rfl)
  have hrun : (execOp (⟨tG, []⟩ : Act).eval o).run P w = .ok (.round l rc.fn ((rc.params.zip #[v, u]).foldl (fun tmps (t, a) => tmps.setIfInBounds t a) rc.tmps) rc.assign rc.body) w := by
    simp only [execOp, k4, resolve]
    simp [e11, e12, e16, h11, h12, h16, Deferred.ofValue, invoke, go_sem, hy]
  exact step_lone_go (by
    have he : FG B tG = (bf G).atR ⟨tG, []⟩ (.inRegion B.r3 (6 :: [7]) :: B.kC) := rfl
    rw [he, hg]; simp [stepG.apply, hrun])
/-- What a frame's function returns when it has no results. -/
theorem walk_leave (B : BackFn P E G e) (c : Frame) (todo : List Go.Item) : Go.step P (lone { gf G tG todo with mode := .returning } (c :: cs) w) = .next (lone (c.finish (.tuple #[])) cs w) := by
  refine step_leave_returned ⟨rfl, rfl, rfl, B.fn, B.hfn, ?_⟩
  unfold results
  rw [B.results]
  simp [Sem.run_bind, Sem.run_map]
/-- At the end: back to the loop, and past it. -/
theorem walk_over (hE : EnvOk P E) (B : BackFn P E G e) (hs : GSt P E [0] y st ga wa g w tG fr) {x : Int} (hv : Fr.get fr 3 = some (.int .i64 x)) (hx : x < 0) (c : Frame) :
    ∃ g' w', Steps P (lone (FH B tG) (c :: cs) w) (lone (c.finish (.tuple #[])) cs w') ∧ To E ga wa g' st w' := by
  obtain ⟨g1, w1, t1, q1, s1⟩ := walk_head (cs := c :: cs) hE B hs hv
  rw [if_neg (by rw [decide_eq_true_eq]; omega)] at q1
  have hex : Go.exitTo B.b0 B.kB = some [] := by simp [BackFn.kB, Go.exitTo]
  exact ⟨g1, w1, q1.trans (.head (stepR_exit hex) (.head (stepR_end rfl) (.one (walk_leave B c _)))), s1.to⟩
/-- A round has ended; yield gives b. -/
theorem walk_out (hE : EnvOk P E) (B : BackFn P E G e) {b : Bool} (hi : Inv E g st w) (hsz : tG.size = 19) (hy : tG[0]? = some y) {cap : V T} {x : Int} (hf : FrOk E g [(1, some cap), (3, some (.int .i64 x))] tG) :
    ∃ g' w' tG', Steps P (lone ((FG B tG).finish (.bool b)) cs w) (lone (gf G tG' (.code (if !b then .ret else .skip) :: [.inBlock B.b1, .code (.region B.i2 B.r2 false), .inLoop B.loopBody, .inBlock B.b0])) cs w') ∧
      GSt P E [0] y st g w g' w' tG' ((18, some (.bool !b)) :: (17, some (.bool b)) :: [(1, some cap), (3, some (.int .i64 x))]) := by
  obtain ⟨o, k1, k2, k3, ts, k4⟩ := B.s3.at (j := 6) rfl
  have hfin : (FG B tG).finish (.bool b) = gf G (tG.setIfInBounds 17 (.bool b)) (.inRegion B.r3 [7] :: B.kC) := by
    have := Frame.finish_atR (bf G) ⟨tG, []⟩ B.r3 6 [7] B.kC (.bool b)
    rw [k1] at this
    simp only [Option.bind_some, k2] at this
    exact this
  have h0 : GSt P E [0] y st g w g w (tG.setIfInBounds 17 (.bool b)) ((17, some (.bool b)) :: [(1, some cap), (3, some (.int .i64 x))]) := by
    refine ⟨.refl hi, ?_, by simp [hsz], fun t ht => ?_⟩
    · exact FrOk.putO (n := 19) (a := ⟨tG, []⟩) (d := some 17) (v := some (.bool b)) (x := .bool b) hf (.fc (.bool b)) rfl (by simp [hsz])
    · simp only [List.mem_cons, List.not_mem_nil, or_false] at ht
      subst ht
      rw [Array.getElem?_setIfInBounds_ne (by decide)]
      exact hy
  obtain ⟨g1, w1, t1, q1, s1⟩ := g_not (G := G) (rest := []) (k := B.kC) (cs := cs) hE h0 B.s3 (j := 7) (b := b) rfl (by decide) (by decide) rfl
  refine ⟨g1, w1, t1, ?_, s1⟩
  rw [hfin]
  exact q1.trans (.head stepR_region_end (.one (stepR_cond (evalO_ok (a := ⟨t1, []⟩) s1.fr (x := .tmp 18) rfl).bool_inv)))
/-- The round has ended as rounds end: on to the loop's head. -/
theorem walk_next (hE : EnvOk P E) (B : BackFn P E G e) (hi : Inv E g st w) (hsz : tG.size = 19) (hy : tG[0]? = some y) {cap : V T} {x : Int} (hf : FrOk E g [(1, some cap), (3, some (.int .i64 x))] tG) (hx1 : 0 ≤ x) (hx2 : x ≤ 9223372036854775807) :
    ∃ g' w' tG', Steps P (lone ((FG B tG).finish (.bool true)) cs w) (lone (FH B tG') cs w') ∧ To E g w g' st w' ∧ tG'.size = 19 ∧ tG'[0]? = some y ∧ FrOk E g' [(1, some cap), (3, some (.int .i64 (x - 1)))] tG' := by
  obtain ⟨g1, w1, t1, q1, s1⟩ := walk_out (cs := cs) hE B (b := true) hi hsz hy hf
  have hr : List.range B.r2.size = [0, 1, 2] := by rw [B.s2.1]; rfl
  have h0 : Steps P (lone (gf G t1 (.code (if !true then .ret else .skip) :: [.inBlock B.b1, .code (.region B.i2 B.r2 false), .inLoop B.loopBody, .inBlock B.b0])) cs w1) (lone (gf G t1 (.inRegion B.r2 [0, 1, 2] :: [.inLoop B.loopBody, .inBlock B.b0])) cs w1) := by
    refine .head stepR_skip (.head stepR_inBlock (.head stepR_region ?_))
    rw [hr]
    exact .refl _ _
  obtain ⟨g2, w2, t2, q2, s2⟩ := g_mov (G := G) (rest := [1, 2]) (k := [.inLoop B.loopBody, .inBlock B.b0]) (cs := cs) hE s1 B.s2 (j := 0) (x := x) rfl (by decide) (by decide) rfl
  obtain ⟨g3, w3, t3, q3, s3⟩ := g_sub (G := G) (rest := [2]) (k := [.inLoop B.loopBody, .inBlock B.b0]) (cs := cs) hE s2 B.s2 (j := 1) (x := x) rfl (by decide) (by decide) rfl (by omega) (by omega)
  obtain ⟨g4, w4, t4, q4, s4⟩ := g_mov (G := G) (rest := []) (k := [.inLoop B.loopBody, .inBlock B.b0]) (cs := cs) hE s3 B.s2 (j := 2) (x := x - 1) rfl (by decide) (by decide) rfl
  exact ⟨g4, w4, t4, ((((q1.trans h0).trans q2).trans q3).trans q4).trans (.head stepR_region_end (.one stepR_inLoop)), s4.to, s4.size, s4.yld 0 (by simp), fr13 s4.fr rfl rfl⟩
/-- The round was left by a jump: what slices.Backward returned returns. -/
theorem walk_jump (hE : EnvOk P E) (B : BackFn P E G e) (hi : Inv E g st w) (hsz : tG.size = 19) (hy : tG[0]? = some y) {cap : V T} {x : Int} (hf : FrOk E g [(1, some cap), (3, some (.int .i64 x))] tG) (c : Frame) :
    ∃ g' w', Steps P (lone ((FG B tG).finish (.bool false)) (c :: cs) w) (lone (c.finish (.tuple #[])) cs w') ∧ To E g w g' st w' := by
  obtain ⟨g1, w1, t1, q1, s1⟩ := walk_out (cs := c :: cs) hE B (b := false) hi hsz hy hf
  exact ⟨g1, w1, q1.trans (.head (stepR_ret rfl) (.one (walk_leave B c _))), s1.to⟩
/-- Up to the loop's head, from the start. -/
theorem walk_start (hE : EnvOk P E) (B : BackFn P E G e) (hi : Inv E g st w) {cap : V T} {xs : List (T e)} (hl : listAt e st cap = some xs) (hsm : xs.length < 4611686018427387904) {xc : Value} (hxc : Rep E g cap xc) :
    ∃ g' w' tG', Steps P (lone (Frame.enter P G #[y, xc] .normal) cs w) (lone (FH B tG') cs w') ∧ To E g w g' st w' ∧ tG'.size = 19 ∧ tG'[0]? = some y ∧ FrOk E g' [(1, some cap), (3, some (.int .i64 ((xs.length : Int) - 1)))] tG' := by
  obtain ⟨t0, ht0⟩ : ∃ t0 : Array Value, t0 = #[y, xc] ++ Array.replicate 17 undef := ⟨_, rfl⟩
  have hent : Frame.enter P G #[y, xc] .normal = gf G t0 [.code (.seq (.region B.i0 B.r0 false) (.block B.b0 (.loop B.loopBody)))] := by
    simp only [Frame.enter, B.hfn, Option.map_some, Option.getD_some, Option.bind_some, B.body, B.ntmps, ht0]
    rfl
  have hr : List.range B.r0.size = [0, 1, 2, 3] := by rw [B.s0.1]; rfl
  have h0 : Steps P (lone (gf G t0 [.code (.seq (.region B.i0 B.r0 false) (.block B.b0 (.loop B.loopBody)))]) cs w) (lone (gf G t0 (.inRegion B.r0 [0, 1, 2, 3] :: [.code (.block B.b0 (.loop B.loopBody))])) cs w) := by
    refine .head stepR_seq (.head stepR_region ?_)
    rw [hr]
    exact .refl _ _
  have s0 : GSt P E [0] y st g w g w t0 [(1, some cap)] := by
    refine ⟨.refl hi, fun t v ht => ?_, by rw [ht0]; simp, fun t ht => ?_⟩
    · simp only [Fr.get] at ht
      split at ht
      · rename_i hb
        have := Nat.eq_of_beq_eq_true hb
        subst this
        cases ht
        exact ⟨xc, by rw [ht0]; simp, hxc⟩
      · cases ht
    · simp only [List.mem_cons, List.not_mem_nil, or_false] at ht
      subst ht
      rw [ht0]; simp
  obtain ⟨ow, g1, w1, t1, q1, s1⟩ := g_list (G := G) (rest := [1, 2, 3]) (k := [.code (.block B.b0 (.loop B.loopBody))]) (cs := cs) hE s0 B.s0 (j := 0) B.hts hl rfl (by decide) (by decide) rfl
  obtain ⟨g2, w2, t2, q2, s2⟩ := g_len (G := G) (rest := [2, 3]) (k := [.code (.block B.b0 (.loop B.loopBody))]) (cs := cs) hE s1 B.s0 (j := 1) B.hts (xs := xs) (ow := ow) rfl (by decide) (by decide) rfl
  obtain ⟨g3, w3, t3, q3, s3⟩ := g_sub (G := G) (rest := [3]) (k := [.code (.block B.b0 (.loop B.loopBody))]) (cs := cs) hE s2 B.s0 (j := 2) (x := (xs.length : Int)) rfl (by decide) (by decide) rfl (by omega) (by omega)
  obtain ⟨g4, w4, t4, q4, s4⟩ := g_mov (G := G) (rest := []) (k := [.code (.block B.b0 (.loop B.loopBody))]) (cs := cs) hE s3 B.s0 (j := 3) (x := (xs.length : Int) - 1) rfl (by decide) (by decide) rfl
  refine ⟨g4, w4, t4, ?_, s4.to, s4.size, s4.yld 0 (by simp), fr13 s4.fr rfl rfl⟩
  rw [hent]
  exact ((((h0.trans q1).trans q2).trans q3).trans q4).trans (.head stepR_region_end (.head stepR_block (.one stepR_loop)))
end
end Go.Proofs.YtnenfgpjedddoaaGreat.AI
