/- Loops over what slices.Backward returns: the machine's way. -/
import Derived.Test.YtnenfgpjedddoaaGreatAIRun
import Derived.IntWalk
set_option linter.unusedVariables false
set_option linter.unusedSectionVars false
set_option linter.unusedSimpArgs false
namespace Go.Proofs.YtnenfgpjedddoaaGreat.AI
open Go

variable {K : Type} [DecidableEq K] {T : K → Type} {E : Env T} {P : Program}

theorem wr64 {x : Int} (h1 : -9223372036854775808 ≤ x) (h2 : x ≤ 9223372036854775807) : IntKind.i64.wrap x = x := IntWalk.i64_in x ⟨h1, h2⟩
/-- The frame of what slices.Backward returned. -/
def gf (G : Nat) (tG : Array Value) (todo : List Go.Item) : Frame := (bf G).atR ⟨tG, []⟩ todo
/-- Between two operations of it. -/
structure GSt (P : Program) (E : Env T) (ys : List Nat) (y : Value) (st : List (Ob T)) (ga : Gh) (wa : World) (g : Gh) (w : World) (tG : Array Value) (fr : Fr T) : Prop where
  to : To E ga wa g st w
  fr : FrOk E g fr tG
  size : tG.size = 19
  yld : ∀ s ∈ ys, tG[s]? = some y
section
variable {ys : List Nat} {y : Value} {st : List (Ob T)} {ga : Gh} {wa : World} {g : Gh} {w : World} {tG : Array Value} {fr : Fr T} {G : Nat} {r : Array Oper} {ss : List (Nat × OpShape)} {j d s : Nat} {rest : List Nat} {k : List Go.Item} {cs : List Frame}
theorem gop (hE : EnvOk P E) (hs : GSt P E ys y st ga wa g w tG fr) {o : Oper} (ho : r[j]? = some o) (hd : o.dst = some d) (hg : o.guard = none) (h19 : d < 19) (hys : d ∉ ys) {a : Ask T} (ha : opAct E fr o = some a) {rd : List Nat} {u : V T}
    (hr : Res P E 0 st a rd [] (some u) st) : ∃ g' w' tG', Steps P (lone (gf G tG (.inRegion r (j :: rest) :: k)) cs w) (lone (gf G tG' (.inRegion r rest :: k)) cs w') ∧ GSt P E ys y st ga wa g' w' tG' ((d, some u) :: fr) := by
  have hwant : Region.wanted o (yielded r tG) = true := by
    unfold Region.wanted
    rw [hg]
  obtain ⟨a', w', ⟨g', x, rfl, hto, hx⟩, hsteps⟩ := one_op (b := bf G) (k := k) (rest := rest) ho hwant (opAct_nodefer ha)
    (hr.wp (a := ⟨tG, []⟩) hE hs.to.inv hs.fr ha (R := fun a' w' => ∃ g' x, a' = (⟨tG, []⟩ : Act).put o.dst x ∧ To E g w g' st w' ∧ RepO E g' (some u) x) fun g' w' x h1 h2 => ⟨g', x, rfl, h1, h2⟩) cs
  rw [hd] at hsteps
  refine ⟨g', w', tG.setIfInBounds d x, hsteps, hs.to.trans hto, ?_, by simp [hs.size], fun t ht => ?_⟩
  · have := FrOk.putO (n := 19) (a := ⟨tG, []⟩) (d := some d) (v := some u) (x := x) (hs.fr.mono hto.le) hx (Nat.ble_eq_true_of_le h19) (by simp [hs.size])
    exact this
  · rw [Array.getElem?_setIfInBounds_ne (fun e => by subst e; exact hys ht)]
    exact hs.yld t ht
theorem Shapes.at (hS : Shapes ss r) {sh : OpShape} (hj : ss[j]? = some (d, sh)) : ∃ o, r[j]? = some o ∧ o.dst = some d ∧ o.guard = none ∧ Shaped sh o.op := hS.2 j d sh hj
theorem opAct_mov {o : Oper} (h : Shaped (.mov s) o.op) : opAct E fr o = moveA E fr o (.tmp s) := by
  unfold opAct
  rcases h with h | h <;> rw [h]
theorem g_mov (hE : EnvOk P E) (hs : GSt P E ys y st ga wa g w tG fr) (hS : Shapes ss r) {x : Int} (hj : ss[j]? = some (d, .mov s)) (h19 : d < 19) (hys : d ∉ ys) (hv : Fr.get fr s = some (.int .i64 x)) :
    ∃ g' w' tG', Steps P (lone (gf G tG (.inRegion r (j :: rest) :: k)) cs w) (lone (gf G tG' (.inRegion r rest :: k)) cs w') ∧ GSt P E ys y st ga wa g' w' tG' ((d, some (.int .i64 x)) :: fr) := by
  obtain ⟨o, h1, h2, h3, h4⟩ := hS.at hj
  refine gop hE hs h1 h2 h3 h19 hys (a := .val (.int .i64 x)) ?_ (.val _)
  rw [opAct_mov h4]
  simp [moveA, evalO, hv, coerce]
theorem g_sub (hE : EnvOk P E) (hs : GSt P E ys y st ga wa g w tG fr) (hS : Shapes ss r) {x : Int} (hj : ss[j]? = some (d, .sub s)) (h19 : d < 19) (hys : d ∉ ys) (hv : Fr.get fr s = some (.int .i64 x)) (h1 : -9223372036854775808 ≤ x - 1) (h2 : x - 1 ≤ 9223372036854775807) :
    ∃ g' w' tG', Steps P (lone (gf G tG (.inRegion r (j :: rest) :: k)) cs w) (lone (gf G tG' (.inRegion r rest :: k)) cs w') ∧ GSt P E ys y st ga wa g' w' tG' ((d, some (.int .i64 (x - 1))) :: fr) := by
  obtain ⟨o, k1, k2, k3, t, u, k4⟩ := hS.at hj
  refine gop hE hs k1 k2 k3 h19 hys (a := .val (.int .i64 (x - 1))) ?_ (.val _)
  unfold opAct
  rw [k4]
  simp [binOpA, evalO, hv, constV, binV, ints, wr64 h1 h2]
theorem g_geq (hE : EnvOk P E) (hs : GSt P E ys y st ga wa g w tG fr) (hS : Shapes ss r) {x : Int} (hj : ss[j]? = some (d, .geq s)) (h19 : d < 19) (hys : d ∉ ys) (hv : Fr.get fr s = some (.int .i64 x)) :
    ∃ g' w' tG', Steps P (lone (gf G tG (.inRegion r (j :: rest) :: k)) cs w) (lone (gf G tG' (.inRegion r rest :: k)) cs w') ∧ GSt P E ys y st ga wa g' w' tG' ((d, some (.bool (decide (0 ≤ x)))) :: fr) := by
  obtain ⟨o, k1, k2, k3, t, u, k4⟩ := hS.at hj
  refine gop hE hs k1 k2 k3 h19 hys (a := .val (.bool (decide (0 ≤ x)))) ?_ (.val _)
  unfold opAct
  rw [k4]
  simp [binOpA, evalO, hv, constV, binV, ints]
theorem g_not (hE : EnvOk P E) (hs : GSt P E ys y st ga wa g w tG fr) (hS : Shapes ss r) {b : Bool} (hj : ss[j]? = some (d, .not s)) (h19 : d < 19) (hys : d ∉ ys) (hv : Fr.get fr s = some (.bool b)) :
    ∃ g' w' tG', Steps P (lone (gf G tG (.inRegion r (j :: rest) :: k)) cs w) (lone (gf G tG' (.inRegion r rest :: k)) cs w') ∧ GSt P E ys y st ga wa g' w' tG' ((d, some (.bool !b)) :: fr) := by
  obtain ⟨o, k1, k2, k3, t, k4⟩ := hS.at hj
  refine gop hE hs k1 k2 k3 h19 hys (a := .val (.bool !b)) ?_ (.val _)
  unfold opAct
  rw [k4]
  simp [unOpA, evalO, hv, unV]
theorem listAt_spec {e : K} {cap : V T} {xs : List (T e)} (h : listAt e st cap = some xs) : ∃ i b ow cs, cap = .ptr i 0 ∧ st[i]? = some (.box b (.sl e xs ow :: cs)) := by
  unfold listAt at h
  split at h
  · rename_i i
    split at h
    · rename_i b e' xs' ow cs hb
      unfold listOf at h
      dsimp only at h
      split at h
      · rename_i he _
        subst he
        simp only [Option.some.injEq] at h
        subst h
        exact ⟨i, b, ow, cs, rfl, hb⟩
      · cases h
    · cases h
  · cases h
theorem g_list (hE : EnvOk P E) (hs : GSt P E ys y st ga wa g w tG fr) (hS : Shapes ss r) {e : K} {ts : Nat} (hts : E.ty ts = .slice e) {cap : V T} {xs : List (T e)} (hl : listAt e st cap = some xs) (hj : ss[j]? = some (d, .load ts s)) (h19 : d < 19) (hys : d ∉ ys) (hv : Fr.get fr s = some cap) :
    ∃ ow g' w' tG', Steps P (lone (gf G tG (.inRegion r (j :: rest) :: k)) cs w) (lone (gf G tG' (.inRegion r rest :: k)) cs w') ∧ GSt P E ys y st ga wa g' w' tG' ((d, some (.sl e xs ow)) :: fr) := by
  obtain ⟨o, k1, k2, k3, k4⟩ := hS.at hj
  obtain ⟨i, b, ow, cs', rfl, hb⟩ := listAt_spec hl
  refine ⟨ow, gop hE hs k1 k2 k3 h19 hys (a := .rd i (loadBox E ts 0)) ?_ (.rd ?_)⟩
  · unfold opAct
    rw [show o.op = .load ts (.tmp s) from k4]
    simp [loadA, globA, evalO, hv, loadV]
  · simp [hb, loadBox, cut, hts]
theorem g_len (hE : EnvOk P E) (hs : GSt P E ys y st ga wa g w tG fr) (hS : Shapes ss r) {e : K} {ts : Nat} (hts : E.ty ts = .slice e) {xs : List (T e)} {ow : Own} (hj : ss[j]? = some (d, .len ts s)) (h19 : d < 19) (hys : d ∉ ys) (hv : Fr.get fr s = some (.sl e xs ow)) :
    ∃ g' w' tG', Steps P (lone (gf G tG (.inRegion r (j :: rest) :: k)) cs w) (lone (gf G tG' (.inRegion r rest :: k)) cs w') ∧ GSt P E ys y st ga wa g' w' tG' ((d, some (.int .i64 (xs.length : Int))) :: fr) := by
  obtain ⟨o, k1, k2, k3, k4⟩ := hS.at hj
  refine gop hE hs k1 k2 k3 h19 hys (a := .val (.int .i64 (xs.length : Int))) ?_ (.val _)
  unfold opAct
  rw [show o.op = _ from k4]
  simp [callA, argsV, evalO, hv, coerce, builtinV, lenV, hts]
theorem g_idx (hE : EnvOk P E) (hs : GSt P E ys y st ga wa g w tG fr) (hS : Shapes ss r) {e : K} {ts s2 : Nat} (hts : E.ty ts = .slice e) {xs : List (T e)} {ow : Own} {i : Nat} (hi : i < xs.length) (hj : ss[j]? = some (d, .idx ts s s2)) (h19 : d < 19) (hys : d ∉ ys) (hv : Fr.get fr s = some (.sl e xs ow)) (hv2 : Fr.get fr s2 = some (.int .i64 (i : Int))) :
    ∃ g' w' tG', Steps P (lone (gf G tG (.inRegion r (j :: rest) :: k)) cs w) (lone (gf G tG' (.inRegion r rest :: k)) cs w') ∧ GSt P E ys y st ga wa g' w' tG' ((d, some (.adr (E.enc e (xs.getD i (E.dflt e))))) :: fr) := by
  obtain ⟨o, k1, k2, k3, k4⟩ := hS.at hj
  refine gop hE hs k1 k2 k3 h19 hys (rd := []) (a := .need (within (i : Int) (xs.length : Int)) (.adr (E.enc e (xs.getD i (E.dflt e))))) ?_ ?_
  · unfold opAct
    rw [show o.op = _ from k4]
    simp [indexAddrA, evalO, hv, hv2, hts]
  · have : within (i : Int) (xs.length : Int) = true := by simp [within]; omega
    rw [this]
    exact .need _
theorem g_elem (hE : EnvOk P E) (hs : GSt P E ys y st ga wa g w tG fr) (hS : Shapes ss r) {te : Nat} {ws : List (V T)} {v : V T} (hc : cut E te ws = some v) (hj : ss[j]? = some (d, .load te s)) (h19 : d < 19) (hys : d ∉ ys) (hv : Fr.get fr s = some (.adr ws)) :
    ∃ g' w' tG', Steps P (lone (gf G tG (.inRegion r (j :: rest) :: k)) cs w) (lone (gf G tG' (.inRegion r rest :: k)) cs w') ∧ GSt P E ys y st ga wa g' w' tG' ((d, some v) :: fr) := by
  obtain ⟨o, k1, k2, k3, k4⟩ := hS.at hj
  refine gop hE hs k1 k2 k3 h19 hys (a := .val v) ?_ (.val _)
  unfold opAct
  rw [show o.op = _ from k4]
  simp [loadA, globA, evalO, hv, loadV, hc]
/-- The move of yield itself. -/
theorem g_yield (hs : GSt P E [0] y st ga wa g w tG fr) (hS : Shapes ss r) (hj : ss[j]? = some (d, .mov 0)) (h19 : d < 19) (hfr : Fr.get fr d = none) (hd0 : d ≠ 0) :
    ∃ tG', Steps P (lone (gf G tG (.inRegion r (j :: rest) :: k)) cs w) (lone (gf G tG' (.inRegion r rest :: k)) cs w) ∧ GSt P E [0, d] y st ga wa g w tG' fr := by
  obtain ⟨o, k1, k2, k3, k4⟩ := hS.at hj
  have hwant : Region.wanted o (yielded r tG) = true := by
    unfold Region.wanted
    rw [k3]
  have hop : ∀ c, o.op ≠ .defer c := fun c h => by
    rcases k4 with k4 | k4 <;> rw [h] at k4 <;> cases k4
  have h0 := hs.yld 0 (by simp)
  have heval : (⟨tG, []⟩ : Act).eval (.tmp 0) = y := by simp [Act.eval, Array.getD_eq_getD_getElem?, h0]
  obtain ⟨a', w', ⟨rfl, rfl⟩, hsteps⟩ := one_op (P := P) (b := bf G) (a := ⟨tG, []⟩) (k := k) (rest := rest) (w := w) k1 hwant hop (R := fun a' w' => a' = (⟨tG, []⟩ : Act).put o.dst y ∧ w' = w) (by
    unfold Oper.wp
    rcases k4 with k4 | k4 <;> simp [execOp, k4, heval, Oper.upon]) cs
  rw [k2] at hsteps
  refine ⟨tG.setIfInBounds d y, hsteps, hs.to, fun t v ht => ?_, by simp [hs.size], fun t ht => ?_⟩
  · obtain ⟨x, h1, h2⟩ := hs.fr t v ht
    refine ⟨x, ?_, h2⟩
    rw [Array.getElem?_setIfInBounds_ne (fun e => by subst e; rw [hfr] at ht; cases ht)]
    exact h1
  · simp only [List.mem_cons, List.not_mem_nil, or_false] at ht
    rcases ht with rfl | rfl
    · rw [Array.getElem?_setIfInBounds_ne hd0]; exact h0
    · have : t < tG.size := by rw [hs.size]; exact h19
      simp [this]
end
end Go.Proofs.YtnenfgpjedddoaaGreat.AI

/- Loops over what slices.Backward returns: its rounds. -/
set_option linter.unusedVariables false
set_option linter.unusedSectionVars false
set_option linter.unusedSimpArgs false
namespace Go.Proofs.YtnenfgpjedddoaaGreat.AI
open Go

variable {K : Type} [DecidableEq K] {T : K → Type} {E : Env T} {P : Program}

section
variable {y : Value} {st : List (Ob T)} {ga : Gh} {wa : World} {g : Gh} {w : World} {tG : Array Value} {fr : Fr T} {G : Nat} {e : K} {cs : List Frame} {i : Nat}
theorem fr13 {a b : V T} (h : FrOk E g fr tG) (h1 : Fr.get fr 1 = some a) (h3 : Fr.get fr 3 = some b) : FrOk E g [(1, some a), (3, some b)] tG := fun t v ht => by
  simp only [Fr.get] at ht
  split at ht
  · rename_i hb
    have := Nat.eq_of_beq_eq_true hb
    subst this
    cases ht
    exact h 1 _ h1
  · split at ht
    · rename_i hb
      have := Nat.eq_of_beq_eq_true hb
      subst this
      cases ht
      exact h 3 _ h3
    · cases ht
def BackFn.kB (B : BackFn P E G e) : List Go.Item := [.code (.seq (.block B.b1 (.seq (.region B.i3 B.r3 false) (.cond (.tmp 18) .ret .skip))) (.region B.i2 B.r2 false)), .inLoop B.loopBody, .inBlock B.b0]
def BackFn.kC (B : BackFn P E G e) : List Go.Item := [.code (.cond (.tmp 18) .ret .skip), .inBlock B.b1, .code (.region B.i2 B.r2 false), .inLoop B.loopBody, .inBlock B.b0]
/-- The head: is there an element still? -/
theorem walk_head (hE : EnvOk P E) (B : BackFn P E G e) (hs : GSt P E [0] y st ga wa g w tG fr) {x : Int} (hv : Fr.get fr 3 = some (.int .i64 x)) :
    ∃ g' w' tG', Steps P (lone (FH B tG) cs w) (lone (gf G tG' (.code (if decide (0 ≤ x) then .skip else .exit B.b0) :: B.kB)) cs w') ∧ GSt P E [0] y st ga wa g' w' tG' ((8, some (.bool (decide (0 ≤ x)))) :: (7, some (.int .i64 x)) :: fr) := by
  have hr : List.range B.r1.size = [0, 1] := by rw [B.s1.1]; rfl
  have h0 : Steps P (lone (FH B tG) cs w) (lone (gf G tG (.inRegion B.r1 [0, 1] :: .code (.cond (.tmp 8) .skip (.exit B.b0)) :: B.kB)) cs w) := by
    refine .head stepR_seq (.head stepR_seq (.head stepR_region ?_))
    rw [hr]
    exact .refl _ _
  obtain ⟨g1, w1, t1, st1, s1⟩ := g_mov (G := G) (rest := [1]) (k := .code (.cond (.tmp 8) .skip (.exit B.b0)) :: B.kB) (cs := cs) hE hs B.s1 (j := 0) rfl (by decide) (by decide) hv
  obtain ⟨g2, w2, t2, st2, s2⟩ := g_geq (G := G) (rest := []) (k := .code (.cond (.tmp 8) .skip (.exit B.b0)) :: B.kB) (cs := cs) hE s1 B.s1 (j := 1) (x := x) rfl (by decide) (by decide) rfl
  refine ⟨g2, w2, t2, ((h0.trans st1).trans st2).trans (.head stepR_region_end (.one (stepR_cond ?_))), s2⟩
  exact (evalO_ok (a := ⟨t2, []⟩) s2.fr (x := .tmp 8) rfl).bool_inv
/-- Up to the call of yield. -/
theorem walk_in (hE : EnvOk P E) (B : BackFn P E G e) (hs : GSt P E [0] y st ga wa g w tG fr) {cap : V T} {xs : List (T e)} {v : V T} (hfr : fr = [(1, some cap), (3, some (.int .i64 ((i : Int) - 1)))]) (hi : 0 < i) (hl : listAt e st cap = some xs) (hle : i ≤ xs.length) (hc : cut E (E.num e) (E.enc e (xs.getD (i - 1) (E.dflt e))) = some v) :
    ∃ g' w' tG' fr', Steps P (lone (FH B tG) cs w) (lone (FG B tG') cs w') ∧ GSt P E [0, 11] y st ga wa g' w' tG' fr' ∧ Fr.get fr' 1 = some cap ∧ Fr.get fr' 3 = some (.int .i64 ((i : Int) - 1)) ∧ Fr.get fr' 12 = some (.int .i64 ((i : Int) - 1)) ∧ Fr.get fr' 16 = some v := by
  subst hfr
  obtain ⟨g1, w1, t1, q1, s1⟩ := walk_head (cs := cs) hE B hs (x := (i : Int) - 1) rfl
  rw [if_pos (by rw [decide_eq_true_eq]; omega)] at q1
  have hr : List.range B.r3.size = [0, 1, 2, 3, 4, 5, 6, 7] := by rw [B.s3.1]; rfl
  have h0 : Steps P (lone (gf G t1 (.code .skip :: B.kB)) cs w1) (lone (gf G t1 (.inRegion B.r3 [0, 1, 2, 3, 4, 5, 6, 7] :: B.kC)) cs w1) := by
    refine .head stepR_skip (.head stepR_seq (.head stepR_block (.head stepR_seq (.head stepR_region ?_))))
    rw [hr]
    exact .refl _ _
  obtain ⟨t2, q2, s2⟩ := g_yield (G := G) (rest := [1, 2, 3, 4, 5, 6, 7]) (k := B.kC) (cs := cs) s1 B.s3 (j := 0) rfl (by decide) rfl (by decide)
  obtain ⟨g3, w3, t3, q3, s3⟩ := g_mov (G := G) (rest := [2, 3, 4, 5, 6, 7]) (k := B.kC) (cs := cs) hE s2 B.s3 (j := 1) (x := (i : Int) - 1) rfl (by decide) (by decide) rfl
  obtain ⟨ow, g4, w4, t4, q4, s4⟩ := g_list (G := G) (rest := [3, 4, 5, 6, 7]) (k := B.kC) (cs := cs) hE s3 B.s3 (j := 2) B.hts hl rfl (by decide) (by decide) rfl
  obtain ⟨g5, w5, t5, q5, s5⟩ := g_mov (G := G) (rest := [4, 5, 6, 7]) (k := B.kC) (cs := cs) hE s4 B.s3 (j := 3) (x := (i : Int) - 1) rfl (by decide) (by decide) rfl
  have hidx : Fr.get ((14, some (V.int IntKind.i64 ((i : Int) - 1))) :: (13, some (V.sl e xs ow)) :: (12, some (V.int IntKind.i64 ((i : Int) - 1))) :: (8, some (V.bool (decide (0 ≤ (i : Int) - 1)))) :: (7, some (V.int IntKind.i64 ((i : Int) - 1))) :: [(1, some cap), (3, some (V.int IntKind.i64 ((i : Int) - 1)))]) 14 = some (V.int IntKind.i64 ((i - 1 : Nat) : Int)) := by
    rw [show ((i - 1 : Nat) : Int) = (i : Int) - 1 by omega]
    rfl
  obtain ⟨g6, w6, t6, q6, s6⟩ := g_idx (G := G) (rest := [5, 6, 7]) (k := B.kC) (cs := cs) hE s5 B.s3 (j := 4) B.hts (i := i - 1) (by omega) rfl (by decide) (by decide) rfl hidx
  obtain ⟨g7, w7, t7, q7, s7⟩ := g_elem (G := G) (rest := [6, 7]) (k := B.kC) (cs := cs) hE s6 B.s3 (j := 5) hc rfl (by decide) (by decide) rfl
  exact ⟨g7, w7, t7, _, ((((((q1.trans h0).trans q2).trans q3).trans q4).trans q5).trans q6).trans q7, s7, rfl, rfl, rfl, rfl⟩
/-- The call of yield: a round. -/
theorem walk_yield (B : BackFn P E G e) {l : Nat} {rc : Loop} {v u : Value} (hr : w.heap[l]? = some (.loop rc)) (hps : rc.params.size = 2) (h11 : tG[11]? = some (.func (.yield l) #[] #[])) (h12 : tG[12]? = some v) (h16 : tG[16]? = some u) :
    Go.step P (lone (FG B tG) cs w) = .next (lone (Frame.round l rc.fn ((rc.params.zip #[v, u]).foldl (fun tmps (t, a) => tmps.setIfInBounds t a) rc.tmps) rc.assign rc.body .normal) (FG B tG :: cs) w) := by
  obtain ⟨o, k1, k2, k3, ts, k4⟩ := B.s3.at (j := 6) rfl
  have hwant : Region.wanted o (yielded B.r3 tG) = true := by
    unfold Region.wanted
    rw [k3]
  have hg := stepGR_op (P := P) (b := bf G) (a := ⟨tG, []⟩) (k := B.kC) (cs := cs) (w := w) (rest := [7]) k1 hwant
  rw [Oper.semAt_eq _ _ _ (fun c h => by rw [k4] at h; cases h)] at hg
  have e11 : (⟨tG, []⟩ : Act).eval (.tmp 11) = .func (.yield l) #[] #[] := by simp [Act.eval, Array.getD_eq_getD_getElem?, h11]
  have e12 : (⟨tG, []⟩ : Act).eval (.tmp 12) = v := by simp [Act.eval, Array.getD_eq_getD_getElem?, h12]
  have e16 : (⟨tG, []⟩ : Act).eval (.tmp 16) = u := by simp [Act.eval, Array.getD_eq_getD_getElem?, h16]
  have hy := run_yield (P := P) (args := #[v, u]) hr (by rw [hps]; rfl)
  have hrun : (execOp (⟨tG, []⟩ : Act).eval o).run P w = .ok (.round l rc.fn ((rc.params.zip #[v, u]).foldl (fun tmps (t, a) => tmps.setIfInBounds t a) rc.tmps) rc.assign rc.body) w := by
    simp only [execOp, k4, resolve]
    simp [e11, e12, e16, h11, h12, h16, Deferred.ofValue, invoke, go_sem, hy]
  exact step_lone_go (by
    have he : FG B tG = (bf G).atR ⟨tG, []⟩ (.inRegion B.r3 (6 :: [7]) :: B.kC) := rfl
    rw [he, hg]; simp [stepG.apply, hrun])
/-- What a frame's function returns when it has no results. -/
theorem walk_leave (B : BackFn P E G e) (c : Frame) (todo : List Go.Item) : Go.step P (lone { gf G tG todo with mode := .returning } (c :: cs) w) = .next (lone (c.finish (.tuple #[])) cs w) := by
  refine step_leave_returned ⟨rfl, rfl, rfl, B.fn, B.hfn, ?_⟩
  unfold results
  rw [B.results]
  simp [Sem.run_bind, Sem.run_map]
/-- At the end: back to the loop, and past it. -/
theorem walk_over (hE : EnvOk P E) (B : BackFn P E G e) (hs : GSt P E [0] y st ga wa g w tG fr) {x : Int} (hv : Fr.get fr 3 = some (.int .i64 x)) (hx : x < 0) (c : Frame) :
    ∃ g' w', Steps P (lone (FH B tG) (c :: cs) w) (lone (c.finish (.tuple #[])) cs w') ∧ To E ga wa g' st w' := by
  obtain ⟨g1, w1, t1, q1, s1⟩ := walk_head (cs := c :: cs) hE B hs hv
  rw [if_neg (by rw [decide_eq_true_eq]; omega)] at q1
  have hex : Go.exitTo B.b0 B.kB = some [] := by simp [BackFn.kB, Go.exitTo]
  exact ⟨g1, w1, q1.trans (.head (stepR_exit hex) (.head (stepR_end rfl) (.one (walk_leave B c _)))), s1.to⟩
/-- A round has ended; yield gives b. -/
theorem walk_out (hE : EnvOk P E) (B : BackFn P E G e) {b : Bool} (hi : Inv E g st w) (hsz : tG.size = 19) (hy : tG[0]? = some y) {cap : V T} {x : Int} (hf : FrOk E g [(1, some cap), (3, some (.int .i64 x))] tG) :
    ∃ g' w' tG', Steps P (lone ((FG B tG).finish (.bool b)) cs w) (lone (gf G tG' (.code (if !b then .ret else .skip) :: [.inBlock B.b1, .code (.region B.i2 B.r2 false), .inLoop B.loopBody, .inBlock B.b0])) cs w') ∧
      GSt P E [0] y st g w g' w' tG' ((18, some (.bool !b)) :: (17, some (.bool b)) :: [(1, some cap), (3, some (.int .i64 x))]) := by
  obtain ⟨o, k1, k2, k3, ts, k4⟩ := B.s3.at (j := 6) rfl
  have hfin : (FG B tG).finish (.bool b) = gf G (tG.setIfInBounds 17 (.bool b)) (.inRegion B.r3 [7] :: B.kC) := by
    have := Frame.finish_atR (bf G) ⟨tG, []⟩ B.r3 6 [7] B.kC (.bool b)
    rw [k1] at this
    simp only [Option.bind_some, k2] at this
    exact this
  have h0 : GSt P E [0] y st g w g w (tG.setIfInBounds 17 (.bool b)) ((17, some (.bool b)) :: [(1, some cap), (3, some (.int .i64 x))]) := by
    refine ⟨.refl hi, ?_, by simp [hsz], fun t ht => ?_⟩
    · exact FrOk.putO (n := 19) (a := ⟨tG, []⟩) (d := some 17) (v := some (.bool b)) (x := .bool b) hf (.fc (.bool b)) rfl (by simp [hsz])
    · simp only [List.mem_cons, List.not_mem_nil, or_false] at ht
      subst ht
      rw [Array.getElem?_setIfInBounds_ne (by decide)]
      exact hy
  obtain ⟨g1, w1, t1, q1, s1⟩ := g_not (G := G) (rest := []) (k := B.kC) (cs := cs) hE h0 B.s3 (j := 7) (b := b) rfl (by decide) (by decide) rfl
  refine ⟨g1, w1, t1, ?_, s1⟩
  rw [hfin]
  exact q1.trans (.head stepR_region_end (.one (stepR_cond (evalO_ok (a := ⟨t1, []⟩) s1.fr (x := .tmp 18) rfl).bool_inv)))
/-- The round has ended as rounds end: on to the loop's head. -/
theorem walk_next (hE : EnvOk P E) (B : BackFn P E G e) (hi : Inv E g st w) (hsz : tG.size = 19) (hy : tG[0]? = some y) {cap : V T} {x : Int} (hf : FrOk E g [(1, some cap), (3, some (.int .i64 x))] tG) (hx1 : 0 ≤ x) (hx2 : x ≤ 9223372036854775807) :
    ∃ g' w' tG', Steps P (lone ((FG B tG).finish (.bool true)) cs w) (lone (FH B tG') cs w') ∧ To E g w g' st w' ∧ tG'.size = 19 ∧ tG'[0]? = some y ∧ FrOk E g' [(1, some cap), (3, some (.int .i64 (x - 1)))] tG' := by
  obtain ⟨g1, w1, t1, q1, s1⟩ := walk_out (cs := cs) hE B (b := true) hi hsz hy hf
  have hr : List.range B.r2.size = [0, 1, 2] := by rw [B.s2.1]; rfl
  have h0 : Steps P (lone (gf G t1 (.code (if !true then .ret else .skip) :: [.inBlock B.b1, .code (.region B.i2 B.r2 false), .inLoop B.loopBody, .inBlock B.b0])) cs w1) (lone (gf G t1 (.inRegion B.r2 [0, 1, 2] :: [.inLoop B.loopBody, .inBlock B.b0])) cs w1) := by
    refine .head stepR_skip (.head stepR_inBlock (.head stepR_region ?_))
    rw [hr]
    exact .refl _ _
  obtain ⟨g2, w2, t2, q2, s2⟩ := g_mov (G := G) (rest := [1, 2]) (k := [.inLoop B.loopBody, .inBlock B.b0]) (cs := cs) hE s1 B.s2 (j := 0) (x := x) rfl (by decide) (by decide) rfl
  obtain ⟨g3, w3, t3, q3, s3⟩ := g_sub (G := G) (rest := [2]) (k := [.inLoop B.loopBody, .inBlock B.b0]) (cs := cs) hE s2 B.s2 (j := 1) (x := x) rfl (by decide) (by decide) rfl (by omega) (by omega)
  obtain ⟨g4, w4, t4, q4, s4⟩ := g_mov (G := G) (rest := []) (k := [.inLoop B.loopBody, .inBlock B.b0]) (cs := cs) hE s3 B.s2 (j := 2) (x := x - 1) rfl (by decide) (by decide) rfl
  exact ⟨g4, w4, t4, ((((q1.trans h0).trans q2).trans q3).trans q4).trans (.head stepR_region_end (.one stepR_inLoop)), s4.to, s4.size, s4.yld 0 (by simp), fr13 s4.fr rfl rfl⟩
/-- The round was left by a jump: what slices.Backward returned returns. -/
theorem walk_jump (hE : EnvOk P E) (B : BackFn P E G e) (hi : Inv E g st w) (hsz : tG.size = 19) (hy : tG[0]? = some y) {cap : V T} {x : Int} (hf : FrOk E g [(1, some cap), (3, some (.int .i64 x))] tG) (c : Frame) :
    ∃ g' w', Steps P (lone ((FG B tG).finish (.bool false)) (c :: cs) w) (lone (c.finish (.tuple #[])) cs w') ∧ To E g w g' st w' := by
  obtain ⟨g1, w1, t1, q1, s1⟩ := walk_out (cs := c :: cs) hE B (b := false) hi hsz hy hf
  exact ⟨g1, w1, q1.trans (.head (stepR_ret rfl) (.one (walk_leave B c _))), s1.to⟩
/-- Up to the loop's head, from the start. -/
theorem walk_start (hE : EnvOk P E) (B : BackFn P E G e) (hi : Inv E g st w) {cap : V T} {xs : List (T e)} (hl : listAt e st cap = some xs) (hsm : xs.length < 4611686018427387904) {xc : Value} (hxc : Rep E g cap xc) :
    ∃ g' w' tG', Steps P (lone (Frame.enter P G #[y, xc] .normal) cs w) (lone (FH B tG') cs w') ∧ To E g w g' st w' ∧ tG'.size = 19 ∧ tG'[0]? = some y ∧ FrOk E g' [(1, some cap), (3, some (.int .i64 ((xs.length : Int) - 1)))] tG' := by
  obtain ⟨t0, ht0⟩ : ∃ t0 : Array Value, t0 = #[y, xc] ++ Array.replicate 17 undef := ⟨_, rfl⟩
  have hent : Frame.enter P G #[y, xc] .normal = gf G t0 [.code (.seq (.region B.i0 B.r0 false) (.block B.b0 (.loop B.loopBody)))] := by
    simp only [Frame.enter, B.hfn, Option.map_some, Option.getD_some, Option.bind_some, B.body, B.ntmps, ht0]
    rfl
  have hr : List.range B.r0.size = [0, 1, 2, 3] := by rw [B.s0.1]; rfl
  have h0 : Steps P (lone (gf G t0 [.code (.seq (.region B.i0 B.r0 false) (.block B.b0 (.loop B.loopBody)))]) cs w) (lone (gf G t0 (.inRegion B.r0 [0, 1, 2, 3] :: [.code (.block B.b0 (.loop B.loopBody))])) cs w) := by
    refine .head stepR_seq (.head stepR_region ?_)
    rw [hr]
    exact .refl _ _
  have s0 : GSt P E [0] y st g w g w t0 [(1, some cap)] := by
    refine ⟨.refl hi, fun t v ht => ?_, by rw [ht0]; simp, fun t ht => ?_⟩
    · simp only [Fr.get] at ht
      split at ht
      · rename_i hb
        have := Nat.eq_of_beq_eq_true hb
        subst this
        cases ht
        exact ⟨xc, by rw [ht0]; simp, hxc⟩
      · cases ht
    · simp only [List.mem_cons, List.not_mem_nil, or_false] at ht
      subst ht
      rw [ht0]; simp
  obtain ⟨ow, g1, w1, t1, q1, s1⟩ := g_list (G := G) (rest := [1, 2, 3]) (k := [.code (.block B.b0 (.loop B.loopBody))]) (cs := cs) hE s0 B.s0 (j := 0) B.hts hl rfl (by decide) (by decide) rfl
  obtain ⟨g2, w2, t2, q2, s2⟩ := g_len (G := G) (rest := [2, 3]) (k := [.code (.block B.b0 (.loop B.loopBody))]) (cs := cs) hE s1 B.s0 (j := 1) B.hts (xs := xs) (ow := ow) rfl (by decide) (by decide) rfl
  obtain ⟨g3, w3, t3, q3, s3⟩ := g_sub (G := G) (rest := [3]) (k := [.code (.block B.b0 (.loop B.loopBody))]) (cs := cs) hE s2 B.s0 (j := 2) (x := (xs.length : Int)) rfl (by decide) (by decide) rfl (by omega) (by omega)
  obtain ⟨g4, w4, t4, q4, s4⟩ := g_mov (G := G) (rest := []) (k := [.code (.block B.b0 (.loop B.loopBody))]) (cs := cs) hE s3 B.s0 (j := 3) (x := (xs.length : Int) - 1) rfl (by decide) (by decide) rfl
  refine ⟨g4, w4, t4, ?_, s4.to, s4.size, s4.yld 0 (by simp), fr13 s4.fr rfl rfl⟩
  rw [hent]
  exact ((((h0.trans q1).trans q2).trans q3).trans q4).trans (.head stepR_region_end (.head stepR_block (.one stepR_loop)))
end
end Go.Proofs.YtnenfgpjedddoaaGreat.AI

/- The abstract interpreter is right: loops over what slices.Backward returns. -/
set_option linter.unusedVariables false
set_option linter.unusedSectionVars false
set_option linter.unusedSimpArgs false
namespace Go.Proofs.YtnenfgpjedddoaaGreat.AI
open Go

variable {K : Type} [DecidableEq K] {T : K → Type} {E : Env T} {P : Program}
section
variable {c : Cfg T} {v : V T} {st' : List (Ob T)} {Z : Zone T} {g : Gh} {w : World} {tmps : Array Value} {todo : List Go.Item} {r : Rnd T} {i : Nat} {k : List (Item T)}

/-- Objects that go, or are named anew, under a loop. -/
theorem LoopOk.anew {fn n : Nat} {g1 : Gh} {w1 w0 : World} {fr0 fr1 : Fr T} {s : LoopState} {l : Nat} {rs : List Nat} {tmps0 : Array Value} {k' : List Go.Item} {r1 : Rnd T} (h : LoopOk P E fn n g w w0 r fr0 k s l rs tmps0 k') (he : Ext g g1 w w1) (hf : FrOk E g1 fr1 tmps0)
    (hp : r1.p = r.p) (hq : r1.q = r.q) (ha : r1.assign = r.assign) (hb : r1.body = r.body) : LoopOk P E fn n g1 w1 w0 r1 fr1 k s l rs tmps0 k' := by
  obtain ⟨d, hd⟩ := h.record
  obtain ⟨x, y⟩ := owns_new he hd h.own
  exact ⟨h.items, hf, h.size, h.marks.mono he, h.new, x, d, by rw [hp, hq, ha, hb]; exact y⟩
/-- The record turns. -/
theorem LoopOk.turn {fn n : Nat} {w0 : World} {fr0 : Fr T} {s : LoopState} {l : Nat} {rs : List Nat} {tmps0 : Array Value} {k' : List Go.Item} (h : LoopOk P E fn n g w w0 r fr0 k s l rs tmps0 k') (o : Obj) : l ∉ rs ∧ MarksOk g (w.putObj l o) w0 rs := by
  obtain ⟨d, hd⟩ := h.record
  have hn : l ∉ rs := fun hm => by
    have := (h.marks.each l hm).2.2
    rw [hd] at this
    cases this
  exact ⟨hn, h.marks.putObj hn⟩
theorem normW_ok {c1 : Cfg T} {cap cap1 : V T} {xc : Value} {live : List Nat} (hi : Inv E g c.st w) (hf : FrOk E g c.fr tmps) (hc : Rep E g cap xc) (h : c.normW cap live = some (c1, cap1)) :
    ∃ g1, Inv E g1 c1.st w ∧ FrOk E g1 c1.fr tmps ∧ Rep E g1 cap1 xc ∧ Ext g g1 w w ∧ KinTo c.keep g g1 ∧ c1.n = c.n ∧ c1.fn = c.fn ∧ c1.res = c.res ∧ c1.keep = c.keep := by
  unfold Cfg.normW at h
  dsimp only at h
  obtain ⟨g1, h1⟩ := growSt_ok (E := E) c.st.length 0 hi
  obtain ⟨l1, l2⟩ := lives_reps hf live
  obtain ⟨g2, h2, h3⟩ := grows_ok (cap :: seconds (lives c.fr live)) h1.inv (.cons (hc.mono h1.le) (l1.mono h1.le))
  split at h
  · rename_i ids cap' vs' obs hp
    simp only [Option.some.injEq, Prod.mk.injEq] at h
    obtain ⟨rfl, rfl⟩ := h
    have hto := h1.trans h2
    obtain ⟨g', _, k2, k3, k4, _, k5, _, _, k6, _⟩ := pack_ok hto.inv hp h3
    cases k4 with
    | cons a b =>
      exact ⟨g', k3, frOf_ok b l2, a, hto.ext.trans k6, (hto.le.kin _).trans (pack_kin (M' := g'.M) k2 k5), rfl, rfl, rfl, rfl⟩
  · cases h

/-- Into the loop. -/
theorem range_good (hE : EnvOk P E) {k' : List Go.Item} {f : Operand} {params : Array Tmp} {assign body : Code} (hS : Sim P E Z c g w tmps (.code (.rangeFunc f params assign body) :: k')) (hk : ItemsOk Z.kind k k') (hG : NxGood P E v st' (stepRange E c k f params assign body)) :
    Ends P E (Z.at tmps (.code (.rangeFunc f params assign body) :: k') w) c.fn c.keep Z.g0 Z.w0 v st' := by
  unfold stepRange at hG
  split at hG
  case h_2 => exact hG.elim
  rename_i G cap hz hf
  split at hG
  case h_2 => exact hG.elim
  rename_i e he
  split at hG
  case h_2 => exact hG.elim
  rename_i xs p q hl hpq
  obtain ⟨hsm, hG⟩ := hG
  rw [decide_eq_true_eq] at hsm
  have hZ := hk.top hz
  have hpars : params = #[p, q] := Array.ext' hpq
  subst hpars
  obtain ⟨B⟩ := back_spec hE he
  have hzo := hS.zone
  unfold Zone.Ok at hzo
  rw [hZ] at hzo
  obtain ⟨rs, z1, z2, z3, z4⟩ := hzo
  obtain ⟨as, cs0, r1, r2, r3⟩ := (evalO_ok (a := ⟨tmps, marks rs⟩) hS.fr hf).fn_inv
  cases r1
  cases r2 with
  | @cons _ xc _ _ hxc hnil =>
  cases hnil
  obtain ⟨a1, a2⟩ := hS.inv.alloc (.deferred (some []))
  obtain ⟨b1, b2⟩ := a1.alloc (.loop { state := .ready, pending := none, fn := c.fn, tmps, params := #[p, q], assign, body, defers := w.heap.size })
  obtain ⟨W1, hW1⟩ : ∃ W1, (w.alloc (.deferred (some []))).alloc (.loop { state := .ready, pending := none, fn := c.fn, tmps, params := #[p, q], assign, body, defers := w.heap.size }) = W1 := ⟨_, rfl⟩
  have hent := run_enterLoop_outer (P := P) (w := w) c.fn tmps #[p, q] assign body
  rw [hW1] at b1 b2 hent
  have hWs : W1.heap.size = w.heap.size + 2 := by rw [← hW1]; simp
  have hL1 : W1.heap[w.heap.size + 1]? = some (.loop { state := .ready, pending := none, fn := c.fn, tmps, params := #[p, q], assign, body, defers := w.heap.size }) := by
    rw [← hW1]
    have := World.alloc_heap_new (w.alloc (.deferred (some []))) (.loop { state := .ready, pending := none, fn := c.fn, tmps, params := #[p, q], assign, body, defers := w.heap.size })
    rwa [World.size_alloc] at this
  have hK1 : W1.heap[w.heap.size]? = some (.deferred (some [])) := by
    rw [← hW1]; exact (RowKit.Below.heap_alloc _ _ _ (by simp)).trans (World.alloc_heap_new w _)
  have hown : ∀ b, w.heap.size ≤ b → ¬ g.owns b := fun b hb ⟨j, lj, h1, h2⟩ => by
    have := hS.inv.lt h1 h2
    omega
  have hx1 : Ext g g w W1 := a2.trans b2
  have hm1 : MarksOk g W1 Z.w0 (w.heap.size :: rs) := by
    have hm := z4.mono hx1
    refine ⟨List.nodup_cons.2 ⟨fun hmem => ?_, z4.nodup⟩, fun r' hr' => ?_⟩
    · have := heap_lt (z4.each _ hmem).2.2
      omega
    · rcases List.mem_cons.1 hr' with rfl | hr'
      · exact ⟨hS.ext.size, hown _ (Nat.le_refl _), hK1⟩
      · exact hm.each r' hr'
  have hcf : ∀ args : Array Value, (callFunc G args).run P W1 = .ok (.enter G args) W1 := fun args => by
    have hb : B.fn.body ≠ none := by rw [B.body]; simp
    simp [callFunc, B.hfn, B.body, B.name]
  intro cs
  have hstep : Go.step P (Z.at tmps (.code (.rangeFunc f #[p, q] assign body) :: k') w cs) = .next (lone (Frame.enter P G #[.func (.yield (w.heap.size + 1)) #[] #[], xc] .normal) (FF c.fn (w.heap.size :: rs) tmps (w.heap.size + 1) k' :: cs) W1) := by
    unfold Zone.at
    rw [z1, z2, z3]
    have heval : (⟨tmps, marks rs⟩ : Act).eval f = .func (.func G) #[] #[xc] := r3
    exact stepR_rangeFunc (P := P) (b := bf c.fn) (a := ⟨tmps, marks rs⟩) (k := k') (cs := cs) (w := w) (w₁ := W1) (w₁' := W1) (w₂ := W1) (d := { target := .fn (.func G) #[xc], args := #[.func (.yield (w.heap.size + 1)) #[] #[]] }) (f := G) (args := #[.func (.yield (w.heap.size + 1)) #[] #[], xc])
      hent (by simp only [resolve, heval]; simp [go_sem]) (by simp [invoke, go_sem, hcf])
  obtain ⟨g2, w2, t2, q2, to2, s2, y2, f2⟩ := walk_start (y := .func (.yield (w.heap.size + 1)) #[] #[]) (cs := FF c.fn (w.heap.size :: rs) tmps (w.heap.size + 1) k' :: cs) hE B b1 hl hsm hxc
  have hlo : LoopOk P E c.fn c.n g W1 Z.w0 ⟨e, cap, p, q, assign, body⟩ c.fr k .ready (w.heap.size + 1) (w.heap.size :: rs) tmps k' :=
    ⟨by rw [hZ] at hk; exact hk, hS.fr, hS.size, hm1, Nat.le_succ_of_le hS.ext.size, hown _ (by omega), _, hL1⟩
  have hH : HSim P E { c with todo := .rounds ⟨e, cap, p, q, assign, body⟩ xs.length :: k } ⟨e, cap, p, q, assign, body⟩ xs.length k g2 w2 Z.g0 Z.w0 (fun cs => lone (FH B t2) (FF c.fn (w.heap.size :: rs) tmps (w.heap.size + 1) k' :: cs) w2) :=
    ⟨to2.inv, hS.fnOk, (hS.ext.trans hx1).trans to2.ext, hS.kin.trans (to2.le.kin _), _, _, _, _, _, _, B, rfl, hlo.mono to2.ext to2.le, ⟨s2, y2, f2, hsm⟩⟩
  obtain ⟨fr', w', g', x, h1, h2⟩ := hG _ _ _ _ _ hH cs
  exact ⟨fr', w', g', x, .head hstep (q2.trans h1), h2⟩

/-- At the head: objects may be named anew. -/
theorem rounds_good (hG : NxGood P E v st' (stepRounds E c k r i)) : HSound P E c r i k v st' := by
  intro g w g0 w0 m hH
  obtain ⟨l, rs, tmps0, k', G, tG, B, rfl, hl, hg⟩ := hH.loop
  unfold stepRounds at hG
  split at hG
  case h_2 => exact hG.elim
  split at hG
  · split at hG
    · rename_i c1 cap1 hn
      obtain ⟨xc, hx1, hx2⟩ := hg.fr 1 r.cap rfl
      obtain ⟨g1, n1, n2, n3, n4, n5, n6, n7, n8, n9⟩ := normW_ok hH.inv hl.fr hx2 hn
      have hle : FrOk E g1 [(1, some cap1), (3, some (.int .i64 ((i : Int) - 1)))] tG := fun t u ht => by
        simp only [Fr.get] at ht
        split at ht
        · rename_i hb
          have := Nat.eq_of_beq_eq_true hb
          subst this
          cases ht
          exact ⟨xc, hx1, n3⟩
        · split at ht
          · rename_i hb
            have := Nat.eq_of_beq_eq_true hb
            subst this
            cases ht
            obtain ⟨y, h1, h2⟩ := hg.fr 3 _ rfl
            rw [h2.int_inv] at h1
            exact ⟨_, h1, .fc (.int _ _)⟩
          · cases ht
      have hl1 : LoopOk P E c1.fn c1.n g1 w w0 ⟨r.e, cap1, r.p, r.q, r.assign, r.body⟩ c1.fr k .ready l rs tmps0 k' := by
        rw [n6, n7]
        exact hl.anew n4 n2 rfl rfl rfl rfl
      have := hG g1 w g0 w0 (fun cs => lone (FH (E := E) (e := r.e) B tG) (FF c1.fn rs tmps0 l k' :: cs) w) ⟨n1, by dsimp only; rw [n7, n8]; exact hH.fnOk, hH.ext.trans n4, by dsimp only; rw [n9]; exact hH.kin.trans n5, l, rs, tmps0, k', G, tG, B, rfl, hl1, ⟨hg.size, hg.yld, hle, hg.small⟩⟩
      dsimp only at this
      rw [n7, n9] at this
      exact this
    · exact hG.elim
  · exact hG g w g0 w0 _ ⟨hH.inv, hH.fnOk, hH.ext, hH.kin, l, rs, tmps0, k', G, tG, B, rfl, hl, hg⟩

/-- Behind the loop, in the function's own frame. -/
theorem Ends.behind {g0 : Gh} {w0 : World} {l : Nat} {rs : List Nat} {tmps0 : Array Value} {k' : List Go.Item} {c2 : Cfg T} {jump : Option Code} {d : Nat} (hi : Inv E g c2.st w)
    (hf : FrOk E g c2.fr tmps0) (hsz : c2.n ≤ tmps0.size) (hm : MarksOk g w w0 rs) (hnew : w0.heap.size ≤ l) (hown : ¬ g.owns l) {s : LoopState} (hs : s ≠ .busy)
    (hrec : w.heap[l]? = some (.loop { state := s, pending := jump, fn := c2.fn, tmps := tmps0, params := #[r.p, r.q], assign := r.assign, body := r.body, defers := d })) (hfn : ∃ fn, P.funcs[c2.fn]? = some fn ∧ c2.res = fn.results.toList) (hext : Ext g0 g w0 w) (hkin : KinTo c2.keep g0 g)
    (htodo : ItemsOk .top c2.todo ((jump.map Go.Item.code).toList ++ k')) (hG : Sound P E c2 v st') :
    Ends P E (fun cs => lone ((FF c2.fn rs tmps0 l k').finish (.tuple #[])) cs w) c2.fn c2.keep g0 w0 v st' := by
  have hend := run_endLoop (P := P) hrec hs
  have hnm : l ∉ rs := fun hmem => by
    have := (hm.each l hmem).2.2
    rw [hrec] at this
    cases this
  have hsim : Sim P E ⟨bf c2.fn, marks rs, [], .top, g0, w0⟩ c2 g (w.putObj l (.loop { state := .exhausted, pending := jump, fn := c2.fn, tmps := tmps0, params := #[r.p, r.q], assign := r.assign, body := r.body, defers := d })) tmps0 ((jump.map Go.Item.code).toList ++ k') :=
    ⟨hi.putObj hown hrec (fun _ _ _ h => by cases h), hf, hsz, .items htodo, hfn, ⟨rs, rfl, rfl, rfl, hm.putObj hnm⟩, hext.putObj _ hnew, hkin⟩
  refine Ends.next (fun cs => ?_) rfl rfl (hG _ _ _ _ _ hsim)
  have hfin := finish_atR_inRangeFunc (b := bf c2.fn) (a := ⟨tmps0, marks rs⟩) (k := k') l (.tuple #[])
  show Steps P (lone (((bf c2.fn).atR ⟨tmps0, marks rs⟩ (.inRangeFunc l :: k')).finish (.tuple #[])) cs w) _
  rw [hfin]
  exact .one (stepR_endRangeFunc hend)

/-- Another round, or on. -/
theorem head_good (hE : EnvOk P E) (hG : NxGood P E v st' (stepHead c k r i)) : HSound P E c r i k v st' := by
  intro g w g0 w0 m hH
  obtain ⟨l, rs, tmps0, k', G, tG, B, rfl, hl, hg⟩ := hH.loop
  by_cases hi : 0 < i
  · exact hG.1 (by simpa using hi) hi g w g0 w0 _ ⟨hH.inv, hH.fnOk, hH.ext, hH.kin, l, rs, tmps0, k', G, tG, B, rfl, hl, hg⟩
  · have hgood := hG.2 (by simpa using hi)
    have hs : GSt P E [0] (.func (.yield l) #[] #[]) c.st g w g w tG [(1, some r.cap), (3, some (.int .i64 ((i : Int) - 1)))] := ⟨.refl hH.inv, hg.fr, hg.size, fun t ht => by
      simp only [List.mem_cons, List.not_mem_nil, or_false] at ht
      subst ht
      exact hg.yld⟩
    intro cs
    obtain ⟨g1, w1, q1, to1⟩ := walk_over (cs := cs) hE B hs (x := (i : Int) - 1) rfl (by omega) (FF c.fn rs tmps0 l k')
    have hl1 := hl.mono to1.ext to1.le
    obtain ⟨d, hd⟩ := hl1.record
    obtain ⟨fr', w', g', x, h1, h2⟩ := Ends.behind (r := r) (c2 := { c with todo := k }) (jump := none) (s := .ready) to1.inv hl1.fr hl1.size hl1.marks hl1.new hl1.own (by simp) hd hH.fnOk (hH.ext.trans to1.ext) (hH.kin.trans (to1.le.kin _)) hl1.items
      (hgood.sound ⟨_, _, hl1.items⟩) cs
    exact ⟨fr', w', g', x, q1.trans h1, h2⟩

/-- Into a round. -/
theorem rin_good (hE : EnvOk P E) (hi : 0 < i) (hG : NxGood P E v st' (stepRin E c k r i)) : HSound P E c r i k v st' := by
  intro g w g0 w0 m hH
  obtain ⟨l, rs, tmps0, k', G, tG, B, rfl, hl, hg⟩ := hH.loop
  unfold stepRin at hG
  split at hG
  case h_2 => exact hG.elim
  rename_i xs hxs
  split at hG
  case h_2 => exact hG.elim
  rename_i u hu
  obtain ⟨hb, hG⟩ := hG
  simp only [Bool.and_eq_true] at hb
  obtain ⟨hle, hp, hq⟩ := hb
  have hle := Nat.le_of_ble_eq_true hle
  have hp : r.p < c.n := Nat.le_of_ble_eq_true hp
  have hq : r.q < c.n := Nat.le_of_ble_eq_true hq
  have hs : GSt P E [0] (.func (.yield l) #[] #[]) c.st g w g w tG [(1, some r.cap), (3, some (.int .i64 ((i : Int) - 1)))] := ⟨.refl hH.inv, hg.fr, hg.size, fun t ht => by
    simp only [List.mem_cons, List.not_mem_nil, or_false] at ht
    subst ht
    exact hg.yld⟩
  intro cs
  obtain ⟨g1, w1, t1, fr1, q1, s1, f1, f3, f12, f16⟩ := walk_in (cs := FF c.fn rs tmps0 l k' :: cs) hE B hs rfl hi hxs hle hu
  have hl1 := hl.mono s1.to.ext s1.to.le
  obtain ⟨d, hd⟩ := hl1.record
  obtain ⟨y12, a1, a2⟩ := s1.fr 12 _ f12
  obtain ⟨y16, b1, b2⟩ := s1.fr 16 _ f16
  have hstep := walk_yield (P := P) (cs := FF c.fn rs tmps0 l k' :: cs) B hd rfl (s1.yld 11 (by simp)) a1 b1
  obtain ⟨tm, htm⟩ : ∃ tm, (tmps0.setIfInBounds r.p y12).setIfInBounds r.q y16 = tm := ⟨_, rfl⟩
  have hfold : ((#[r.p, r.q] : Array Nat).zip #[y12, y16]).foldl (fun tmps (t, a) => tmps.setIfInBounds t a) tmps0 = tm := by rw [← htm]; simp
  dsimp only at hstep
  rw [hfold] at hstep
  have hn := hl1.size
  have hfr : FrOk E g1 ((r.q, some u) :: (r.p, some (.int .i64 ((i - 1 : Nat) : Int))) :: c.fr) tm := by
    have h12 : Rep E g1 (.int .i64 ((i - 1 : Nat) : Int)) y12 := by
      rw [show ((i - 1 : Nat) : Int) = (i : Int) - 1 by omega]; exact a2
    have e1 := FrOk.putO (n := c.n) (a := ⟨tmps0, []⟩) (d := some r.p) (v := some (.int .i64 ((i - 1 : Nat) : Int))) (x := y12) hl1.fr h12 (Nat.ble_eq_true_of_le hp) hn
    have e2 := FrOk.putO (n := c.n) (a := ⟨tmps0.setIfInBounds r.p y12, []⟩) (d := some r.q) (v := some u) (x := y16) e1 b2 (Nat.ble_eq_true_of_le hq) (by simpa using hn)
    rw [← htm]
    exact e2
  have hitems : ItemsOk (.pre r c.fr i k) (.code r.assign :: .begin :: .code r.body :: .rend r c.fr i :: k) [.code r.assign, .beginRound, .code r.body] := .code .pre
  have hsim : Sim P E ⟨{ bf c.fn with roundOf := some l }, [], [FG B t1, FF c.fn rs tmps0 l k'], .pre r c.fr i k, g0, w0⟩ { c with todo := .code r.assign :: .begin :: .code r.body :: .rend r c.fr i :: k, fr := (r.q, some u) :: (r.p, some (.int .i64 ((i - 1 : Nat) : Int))) :: c.fr } g1 w1 tm [.code r.assign, .beginRound, .code r.body] :=
    ⟨s1.to.inv, hfr, by show c.n ≤ _; rw [← htm]; simpa using hn, .items hitems, hH.fnOk, ⟨l, rs, tmps0, k', G, t1, B, rfl, rfl, rfl, hl1, ⟨s1.size, s1.yld 0 (by simp), fr13 s1.fr f1 f3, hg.small⟩, hi⟩, hH.ext.trans s1.to.ext, hH.kin.trans (s1.to.le.kin _)⟩
  obtain ⟨fr', w', g', x, h1, h2⟩ := hG.sound ⟨_, _, hitems⟩ _ _ _ _ _ hsim cs
  exact ⟨fr', w', g', x, q1.trans (.head hstep h1), h2⟩

/-- The round begins. -/
theorem begin_good (hc : c.todo = .begin :: k) (hG : Good P E { c with todo := k } v st') : Sound P E c v st' := by
  intro Z g w tmps todo hS
  have htop := hS.top
  cases htop with
  | on hc' => rw [hc] at hc'; cases hc'
  | items hi =>
    rw [hc] at hi
    generalize hz : Z.kind = z at hi
    cases hi with
    | @pre r fr0 i kk =>
      have hzo := hS.zone
      unfold Zone.Ok at hzo
      rw [hz] at hzo
      obtain ⟨l, rs, tmps0, k', G, tG, B, z1, z2, z3, hl, hg, hi0⟩ := hzo
      obtain ⟨d, hd⟩ := hl.record
      have hbr := run_beginRound (P := P) hd rfl
      obtain ⟨hn, hm⟩ := hl.turn (.loop { state := .busy, pending := none, fn := c.fn, tmps := tmps0, params := #[r.p, r.q], assign := r.assign, body := r.body, defers := d })
      have hlt := heap_lt hd
      have hitems : ItemsOk (.rnd r fr0 i kk) (.code r.body :: .rend r fr0 i :: kk) [.code r.body] := .code .rnd
      have hsim : Sim P E { Z with kind := .rnd r fr0 i kk } { c with todo := .code r.body :: .rend r fr0 i :: kk } g (w.putObj l (.loop { state := .busy, pending := none, fn := c.fn, tmps := tmps0, params := #[r.p, r.q], assign := r.assign, body := r.body, defers := d })) tmps [.code r.body] :=
        ⟨hS.inv.putObj hl.own hd (fun _ _ _ h => by cases h), hS.fr, hS.size, .items hitems, hS.fnOk, ⟨l, rs, tmps0, k', G, tG, B, z1, z2, z3, ⟨hl.items, hl.fr, hl.size, hm, hl.new, hl.own, d, World.putObj_heap_same hlt⟩, hg, hi0⟩, hS.ext.putObj _ hl.new, hS.kin⟩
      have he := hG.sound ⟨_, _, hitems⟩ { Z with kind := .rnd r fr0 i kk } _ _ _ _ hsim
      exact Ends.next (g0 := Z.g0) (w0 := Z.w0) (fun cs => .one (stepR_beginRound (by rw [z1]) hbr)) rfl rfl he

/-- The round ends as rounds end. -/
theorem rend_good (hE : EnvOk P E) {fr0 : Fr T} (hc : c.todo = .rend r fr0 i :: k) (hG : Good P E { c with todo := .rounds r (i - 1) :: k, fr := fr0 } v st') : Sound P E c v st' := by
  intro Z g w tmps todo hS
  have htop := hS.top
  cases htop with
  | on hc' => rw [hc] at hc'; cases hc'
  | items hi =>
    rw [hc] at hi
    generalize hz : Z.kind = z at hi
    cases hi with
    | rnd =>
      have hzo := hS.zone
      unfold Zone.Ok at hzo
      rw [hz] at hzo
      obtain ⟨l, rs, tmps0, k', G, tG, B, z1, z2, z3, hl, hg, hi0⟩ := hzo
      obtain ⟨d, hd⟩ := hl.record
      have her := run_endRound (P := P) none hd
      obtain ⟨hn, hm⟩ := hl.turn (.loop { state := .ready, pending := none, fn := c.fn, tmps := tmps0, params := #[r.p, r.q], assign := r.assign, body := r.body, defers := d })
      have hlt := heap_lt hd
      have hinv := hS.inv.putObj (o' := .loop { state := .ready, pending := none, fn := c.fn, tmps := tmps0, params := #[r.p, r.q], assign := r.assign, body := r.body, defers := d }) hl.own hd (fun _ _ _ h => by cases h)
      have hext := hS.ext.putObj (.loop { state := .ready, pending := none, fn := c.fn, tmps := tmps0, params := #[r.p, r.q], assign := r.assign, body := r.body, defers := d }) hl.new
      have hl1 : LoopOk P E c.fn c.n g (w.putObj l (.loop { state := .ready, pending := none, fn := c.fn, tmps := tmps0, params := #[r.p, r.q], assign := r.assign, body := r.body, defers := d })) Z.w0 r fr0 k .ready l rs tmps0 k' :=
        ⟨hl.items, hl.fr, hl.size, hm, hl.new, hl.own, d, World.putObj_heap_same hlt⟩
      intro cs
      have hsmall := hg.small
      obtain ⟨g1, w1, t1, q1, to1, k1, k2, k3⟩ := walk_next (cs := FF c.fn rs tmps0 l k' :: cs) hE B hinv hg.size hg.yld hg.fr (by omega) (by omega)
      have hH : HSim P E { c with todo := .rounds r (i - 1) :: k, fr := fr0 } r (i - 1) k g1 w1 Z.g0 Z.w0 (fun cs => lone (FH B t1) (FF c.fn rs tmps0 l k' :: cs) w1) :=
        ⟨to1.inv, hS.fnOk, hext.trans to1.ext, hS.kin.trans (to1.le.kin _), l, rs, tmps0, k', G, t1, B, rfl, hl1.mono to1.ext to1.le, ⟨k1, k2, by rw [show ((i - 1 : Nat) : Int) - 1 = (i : Int) - 1 - 1 by omega]; exact k3, by omega⟩⟩
      obtain ⟨fr', w', g', x, h1, h2⟩ := hG _ _ _ _ _ hH cs
      refine ⟨fr', w', g', x, .head ?_ (q1.trans h1), h2⟩
      unfold Zone.at
      rw [z3]
      exact stepR_round_end (by rw [z1]) (by rw [z1]; rfl) her

/-- The round is left by a jump. -/
theorem jump_good (hE : EnvOk P E) {r : Rnd T} {fr0 : Fr T} {i : Nat} {kF : List (Item T)} {jump : Code} (hz : Z.kind = .rnd r fr0 i kF) (hS : Sim P E Z c g w tmps todo) (hG : Good P E { c with todo := .code jump :: kF, fr := fr0 } v st')
    (hstep : ∀ (l : Nat) (v : Value) (w' : World) (f : Frame) (cs : List Frame), Z.b.roundOf = some l → Z.b.kind = .normal → (Instr.endRound l (some jump)).run P w = .ok v w' → Go.step P (lone (Z.b.atR ⟨tmps, Z.ds⟩ todo) (f :: cs) w) = .next (lone (f.finish v) cs w')) :
    Ends P E (Z.at tmps todo w) c.fn c.keep Z.g0 Z.w0 v st' := by
  have hzo := hS.zone
  unfold Zone.Ok at hzo
  rw [hz] at hzo
  obtain ⟨l, rs, tmps0, k', G, tG, B, z1, z2, z3, hl, hg, hi0⟩ := hzo
  obtain ⟨d, hd⟩ := hl.record
  have her := run_endRound (P := P) (some jump) hd
  obtain ⟨hn, hm⟩ := hl.turn (.loop { state := .done, pending := some jump, fn := c.fn, tmps := tmps0, params := #[r.p, r.q], assign := r.assign, body := r.body, defers := d })
  have hlt := heap_lt hd
  have hinv := hS.inv.putObj (o' := .loop { state := .done, pending := some jump, fn := c.fn, tmps := tmps0, params := #[r.p, r.q], assign := r.assign, body := r.body, defers := d }) hl.own hd (fun _ _ _ h => by cases h)
  have hext := hS.ext.putObj (.loop { state := .done, pending := some jump, fn := c.fn, tmps := tmps0, params := #[r.p, r.q], assign := r.assign, body := r.body, defers := d }) hl.new
  have hrec1 : (w.putObj l (.loop { state := .done, pending := some jump, fn := c.fn, tmps := tmps0, params := #[r.p, r.q], assign := r.assign, body := r.body, defers := d })).heap[l]? = some (.loop { state := .done, pending := some jump, fn := c.fn, tmps := tmps0, params := #[r.p, r.q], assign := r.assign, body := r.body, defers := d }) := World.putObj_heap_same hlt
  intro cs
  obtain ⟨g1, w1, q1, to1⟩ := walk_jump (cs := cs) hE B hinv hg.size hg.yld hg.fr (FF c.fn rs tmps0 l k')
  obtain ⟨hown, hrec2⟩ := owns_new to1.ext hrec1 hl.own
  have hitems : ItemsOk .top (.code jump :: kF) (((some jump).map Go.Item.code).toList ++ k') := .code hl.items
  obtain ⟨fr', w', g', x, h1, h2⟩ := Ends.behind (r := r) (c2 := { c with todo := .code jump :: kF, fr := fr0 }) (jump := some jump) (s := .done) to1.inv (hl.fr.mono to1.le) hl.size (hm.mono to1.ext) hl.new hown (by simp) hrec2 hS.fnOk (hext.trans to1.ext) (hS.kin.trans (to1.le.kin _)) hitems
    (hG.sound ⟨_, _, hitems⟩) cs
  refine ⟨fr', w', g', x, .head ?_ (q1.trans h1), h2⟩
  unfold Zone.at
  rw [z3]
  exact hstep l _ _ _ _ (by rw [z1]) (by rw [z1]; rfl) her
end
end Go.Proofs.YtnenfgpjedddoaaGreat.AI

/- The abstract interpreter is right: whole runs. -/
set_option linter.unusedVariables false
set_option linter.unusedSectionVars false
set_option linter.unusedSimpArgs false
namespace Go.Proofs.YtnenfgpjedddoaaGreat.AI
open Go

variable {K : Type} [DecidableEq K] {T : K → Type} {E : Env T} {P : Program}
theorem code_good (hE : EnvOk P E) {c : Cfg T} {v : V T} {st' : List (Ob T)} {k : List (Item T)} {a : Code} (hc : c.todo = .code a :: k) (hG : NxGood P E v st' (stepCode E c k a)) : Sound P E c v st' := by
  intro Z g w tmps todo hS
  have htop := hS.top
  cases htop with
  | on hc' => rw [hc] at hc'; cases hc'
  | items hi =>
    rw [hc] at hi
    generalize hz : Z.kind = z at hi
    have hret : a = .ret → zoneOf k = z.zk → (∀ cs, Z.b.roundOf = none → Steps P (Z.at tmps todo w cs) (lone { Z.b.atR ⟨tmps, Z.ds⟩ todo with mode := .returning } (Z.above ++ cs) w)) → 
        (∀ (l : Nat) (v : Value) (w' : World) (f : Frame) (cs : List Frame), Z.b.roundOf = some l → Z.b.kind = .normal → (Instr.endRound l (some .ret)).run P w = .ok v w' → Go.step P (lone (Z.b.atR ⟨tmps, Z.ds⟩ todo) (f :: cs) w) = .next (lone (f.finish v) cs w')) → Ends P E (Z.at tmps todo w) c.fn c.keep Z.g0 Z.w0 v st' := fun ha hzk hs hs2 => by
      subst ha
      simp only [stepCode, stepReturn] at hG
      rw [hzk] at hG
      cases z with
      | top => exact ret_good hE hz hS hG hs
      | pre => exact hG.elim
      | rnd r fr0 i kF => exact jump_good hE hz hS hG hs2
    cases hi with
    | bot => exact hret rfl rfl (fun cs hr => .one (stepR_end hr)) (fun l v w' f cs hl => by
        have hzo := hS.zone
        unfold Zone.Ok at hzo
        rw [hz] at hzo
        obtain ⟨rs, z1, _⟩ := hzo
        rw [z1] at hl
        cases hl)
    | @code _ _ _ k' hk =>
      cases a with
      | ret => exact hret rfl hk.zone (fun cs hr => .one (stepR_ret hr)) (fun l v w' f cs hl hn he => stepR_round_ret hl hn he)
      | skip => exact quiet (c1 := { c with todo := k }) hS hG (fun cs => .one stepR_skip) rfl rfl rfl rfl rfl rfl (by rw [hz]; exact hk)
      | seq x y => exact quiet (c1 := { c with todo := .code x :: .code y :: k }) hS hG (fun cs => .one stepR_seq) rfl rfl rfl rfl rfl rfl (by rw [hz]; exact .code (.code hk))
      | cond x y u =>
        simp only [stepCode, stepCond] at hG
        split at hG
        · rename_i t ht
          have hx := evalO_ok (a := ⟨tmps, Z.ds⟩) hS.fr ht
          have hb := hx.bool_inv
          cases t with
          | true => exact slots hS (hG.1 rfl) (fun cs => .one (stepR_cond (t := true) hb)) rfl (hS.fr.know ht) rfl rfl rfl rfl (by rw [hz]; exact .code hk)
          | false => exact slots hS (hG.2 rfl) (fun cs => .one (stepR_cond (t := false) hb)) rfl (hS.fr.know ht) rfl rfl rfl rfl (by rw [hz]; exact .code hk)
        · exact hG.elim
      | block id body => exact quiet (c1 := { c with todo := .code body :: .inBlock id :: k }) hS hG (fun cs => .one stepR_block) rfl rfl rfl rfl rfl rfl (by rw [hz]; exact .code (.inBlock hk))
      | loop body => exact quiet (c1 := { c with todo := .code body :: .inLoop body (match E.cuts c.fn with | true => none | false => some (slotsOf [] c.fr)) :: k }) hS hG (fun cs => .one stepR_loop) rfl rfl rfl rfl rfl rfl (by rw [hz]; exact .code (.inLoop hk))
      | exit id =>
        simp only [stepCode, stepExit] at hG
        split at hG
        · rename_i r hr
          obtain ⟨r', h1, h2⟩ := hk.exitTo hr
          exact quiet hS hG (fun cs => .one (stepR_exit h1)) rfl rfl rfl rfl rfl rfl (by rw [hz]; exact h2)
        · rename_i hr
          rw [hk.zone] at hG
          cases z with
          | top => exact hG.elim
          | pre => exact hG.elim
          | rnd r fr0 i kF => exact jump_good hE hz hS hG (fun l v w' f cs hl hn he => stepR_round_exit hl hn (hk.exitOut hr) he)
      | region id ops draw =>
        simp only [stepCode, stepRegion] at hG
        split at hG
        · rename_i hzk
          have hzt := hk.top hzk
          rw [hzt] at hz
          split at hG
          · rename_i live _
            split at hG
            · rename_i c1 hn
              obtain ⟨g1, n1, n2, n3, n4, n5, n6, n7, n8⟩ := norm_ok hS hn
              exact onward (c1 := { c1 with todo := .reg id ops draw :: k }) hz hS hG (fun cs => .refl _ _) n1 n2 n3 n4 n5 n6 n7 n8 (by rw [hz, ← hzt]; exact .reg hk)
            · exact hG.elim
          · exact region_good hE (fun _ => hz) hS (by rw [hz, ← hzt]; exact hk) hG
        · cases draw with
          | false => exact region_good hE (fun h => by cases h) hS (by rw [hz]; exact hk) hG
          | true => exact hG.elim
      | rangeFunc f params assign body => exact range_good hE hS (by rw [hz]; exact hk) hG
      | _ => exact hG.elim

theorem ops_good (hE : EnvOk P E) {c : Cfg T} {v : V T} {st' : List (Ob T)} {k : List (Item T)} {all : Array Oper} {rest : List Oper} (hc : c.todo = .ops all rest :: k) (hG : NxGood P E v st' (stepOps E c k all rest)) : Sound P E c v st' := by
  intro Z g w tmps todo hS
  have htop := hS.top
  cases htop with
  | on hc' => rw [hc] at hc'; cases hc'
  | items hi =>
    rw [hc] at hi
    generalize hz : Z.kind = z at hi
    cases hi with
    | @ops _ _ _ _ k' i hd hk =>
      subst hz
      cases rest with
      | nil =>
        have : all.size ≤ i := by
          have := List.drop_eq_nil_iff.1 hd
          simpa using this
        rw [show all.size - i = 0 by omega]
        refine quiet (g := g) (c1 := { c with todo := k }) (hS := ?_) hG (fun cs => .one stepR_region_end) rfl rfl rfl rfl rfl rfl hk
        rw [show all.size - i = 0 by omega] at hS
        exact hS
      | cons o rest =>
        have hil : i < all.size := by
          refine Nat.lt_of_not_le fun hle => ?_
          rw [List.drop_eq_nil_of_le (by simpa using hle)] at hd
          cases hd
        have hio : all[i]? = some o := by
          have : (all.toList.drop i)[0]? = some o := by rw [hd]; rfl
          rw [List.getElem?_drop] at this
          simpa using this
        have hrest : all.toList.drop (i + 1) = rest := by
          rw [← List.tail_drop, hd]
          rfl
        have hrange : List.range' i (all.size - i) = i :: List.range' (i + 1) (all.size - (i + 1)) := by
          rw [show all.size - i = (all.size - (i + 1)) + 1 by omega, List.range'_succ]
        rw [hrange] at hS ⊢
        simp only [stepOps] at hG
        split at hG
        · exact hG.elim
        rename_i hdst
        -- an operation that is not wanted
        have skip : ∀ {fr1 : Fr T}, FrOk E g fr1 tmps → GNo all o c.fr → Good P E { c with todo := .ops all rest :: k, fr := fr1.drop o.dst } v st' → Ends P E (Z.at tmps (.inRegion all (i :: List.range' (i + 1) (all.size - (i + 1))) :: k') w) c.fn c.keep Z.g0 Z.w0 v st' := fun {fr1} hf1 hn hg => by
          have hw := GNo.wanted (all := all) (o := o) hS.fr hn
          have hitems : ItemsOk Z.kind (.ops all rest :: k) (.inRegion all (List.range' (i + 1) (all.size - (i + 1))) :: k') := .ops hrest hk
          have hfr : FrOk E g (fr1.drop o.dst) ((⟨tmps, Z.ds⟩ : Act).put o.dst undef).tmps := FrOk.putO (a := ⟨tmps, Z.ds⟩) (v := none) hf1 rfl hdst hS.size
          have hact : (⟨tmps, Z.ds⟩ : Act).put o.dst undef = ⟨((⟨tmps, Z.ds⟩ : Act).put o.dst undef).tmps, Z.ds⟩ := by
            cases hdd : o.dst <;> rfl
          refine Ends.next (fun cs => ?_) rfl rfl (hg.sound ⟨_, _, hitems⟩ _ _ _ _ _ (hS.to (c1 := { c with todo := .ops all rest :: k, fr := fr1.drop o.dst }) (tmps1 := ((⟨tmps, Z.ds⟩ : Act).put o.dst undef).tmps) (.refl _ _) (.refl _) hS.inv hfr (put_size ⟨tmps, Z.ds⟩ _ _) rfl rfl rfl rfl (.items hitems)))
          unfold Zone.at
          rw [← hact]
          have hs := stepR_op_skip (P := P) (b := Z.b) (a := ⟨tmps, Z.ds⟩) (k := k') (cs := Z.above ++ cs) (w := w) (ops := all) (i := i) (rest := List.range' (i + 1) (all.size - (i + 1))) (by simp [hio, hw])
          simp only [hio, Option.bind_some] at hs
          exact .one hs
        split at hG
        · rename_i hg
          exact perform_good hE hS hio hrest hdst (.inl hg) hk (GYes.wanted hS.fr (.inl hg)) (performN_good hG)
        · rename_i j want hg
          unfold stepGuard at hG
          split at hG
          · exact hG.elim
          · rename_i d hdd
            split at hG
            · rename_i t ht
              cases hb : (match want with | true => t | false => !t) with
              | true =>
                have htw : t = want := by cases want <;> cases t <;> simp_all
                subst htw
                have hgood := hG.1 hb
                have hsound := hgood.on rfl
                have hy : GYes all o (c.fr.put (some d) (.bool t)) := .inr ⟨j, t, d, hg, hdd, get_put_self _ _ _⟩
                exact Ends.next (fun cs => .refl _ _) rfl rfl (hsound _ _ _ _ _ (hS.to (c1 := { c with todo := .on all o rest :: k, fr := c.fr.put (some d) (.bool t) }) (.refl _ _) (.refl _) hS.inv (hS.fr.known ht) rfl rfl rfl rfl rfl (.on rfl hio hrest hdst hy hk)))
              | false =>
                have htw : t = !want := by cases want <;> cases t <;> simp_all
                subst htw
                exact skip (hS.fr.known ht) ⟨j, want, d, hg, hdd, .inl ht⟩ (hG.2 hb)
            · rename_i ht
              exact skip hS.fr ⟨j, want, d, hg, hdd, .inr ht⟩ hG
            · exact hG.elim

/-- What a step leads to makes the step good. -/
theorem step_good (hE : EnvOk P E) {c : Cfg T} {v : V T} {st' : List (Ob T)} (hG : NxGood P E v st' (step E c)) : Good P E c v st' := by
  unfold Good
  unfold step at hG
  cases hc : c.todo with
  | nil => rw [hc] at hG; exact hG.elim
  | cons x k =>
    rw [hc] at hG
    cases x with
    | code a => exact code_good hE hc hG
    | reg id ops draw =>
      intro Z g w tmps todo hS
      have htop := hS.top
      cases htop with
      | on hc' => rw [hc] at hc'; cases hc'
      | items hi =>
        rw [hc] at hi
        generalize hz : Z.kind = z at hi
        cases hi with
        | reg hk =>
          simp only [stepItem] at hG
          split at hG
          · rename_i hzk
            have hzt := hk.top hzk
            subst hzt
            exact region_good hE (fun _ => hz) hS (by rw [hz]; exact hk) hG
          · exact hG.elim
    | inBlock id =>
      intro Z g w tmps todo hS
      have htop := hS.top
      cases htop with
      | on hc' => rw [hc] at hc'; cases hc'
      | items hi =>
        rw [hc] at hi
        generalize hz : Z.kind = z at hi
        cases hi with
        | inBlock hk => exact quiet (c1 := { c with todo := k }) hS hG (fun cs => .one stepR_inBlock) rfl rfl rfl rfl rfl rfl (by rw [hz]; exact hk)
    | inLoop body slots =>
      intro Z g w tmps todo hS
      have htop := hS.top
      cases htop with
      | on hc' => rw [hc] at hc'; cases hc'
      | items hi =>
        rw [hc] at hi
        generalize hz : Z.kind = z at hi
        cases hi with
        | inLoop hk =>
          have hk2 := ItemsOk.code (c := body) (ItemsOk.inLoop (body := body) (slots := slots) hk)
          rw [← hz] at hk2
          cases slots with
          | none => exact quiet (c1 := { c with todo := .code body :: .inLoop body none :: k }) hS hG (fun cs => .one stepR_inLoop) rfl rfl rfl rfl rfl rfl hk2
          | some slots =>
            have pr : Good P E { c with todo := .code body :: .inLoop body (some slots) :: k, fr := prune c.fr slots } v st' → Ends P E (Z.at tmps _ w) c.fn c.keep Z.g0 Z.w0 v st' := fun h =>
              AI.slots hS h (fun cs => .one stepR_inLoop) rfl (prune_ok hS.fr slots) rfl rfl rfl rfl hk2
            simp only [stepItem, stepLoop] at hG
            split at hG
            · exact pr hG
            · rename_i hin
              simp only [Bool.and_eq_true] at hin
              have hzt : z = .top := hk.top (by
                have := hin.2
                unfold inTop at this
                split at this
                · assumption
                · cases this)
              subst hzt
              split at hG
              · rename_i ids vs obs hp
                obtain ⟨g3, k1, k2, k3, k4⟩ := pack_fr hS.inv hS.fr (.refl hS.inv) (lives_reps hS.fr slots).1 hp
                exact onward (c1 := { c with todo := .code body :: .inLoop body (some slots) :: k, fr := frOf (lives c.fr slots) vs, st := obs }) hz hS hG (fun cs => .one stepR_inLoop) k1 k4 k2 k3 rfl rfl rfl rfl hk2
              · exact pr hG
    | ops all rest => exact ops_good hE hc hG
    | on all o rest =>
      intro Z g w tmps todo hS
      have htop := hS.top
      cases htop with
      | items hi =>
        rw [hc] at hi
        generalize Z.kind = z at hi
        cases hi
      | on hc' ho hd hdst hg hk =>
        rw [hc] at hc'
        cases hc'
        exact perform_good hE hS ho hd hdst hg hk (GYes.wanted hS.fr hg) (performN_good hG)
    | dops all rest i base foot => exact dops_good hG
    | don all o rest i base foot =>
      intro hy hdst
      simp only [stepItem, stepDon] at hG
      split at hG
      · exact hG.elim
      · rename_i a ha
        exact performD_good ha hy hdst hG
    | rounds r i => exact rounds_good hG
    | head r i => exact head_good hE hG
    | rin r i => exact fun hi => rin_good hE hi hG
    | begin => exact begin_good hc hG
    | rend r fr i => exact rend_good hE hc hG

theorem entry_spec {f : Nat} {args : List (V T)} {obs : List (Ob T)} {e : Cfg T} (h : entry E f args obs = some e) : ∃ fn b, E.fns f = some fn ∧ fn.body = some b ∧ e = { todo := [.code b, .code .ret], fr := argSlots 0 args, st := obs, fn := f, keep := obs.length, n := fn.ntmps, res := fn.results.toList } := by
  unfold entry at h
  split at h
  · rename_i fn hfn
    split at h
    · rename_i b hb
      simp only [Option.some.injEq] at h
      exact ⟨fn, b, hfn, hb, h.symm⟩
    · cases h
  · cases h
theorem argSlots_get : ∀ {args : List (V T)} {i t : Nat} {v : V T}, Fr.get (argSlots i args) t = some v → i ≤ t ∧ args[t - i]? = some v
  | [], _, _, _, h => by simp [argSlots, Fr.get] at h
  | u :: args, i, t, v, h => by
    simp only [argSlots, Fr.get] at h
    split at h
    · rename_i hb
      have := Nat.eq_of_beq_eq_true hb
      subst this
      exact ⟨Nat.le_refl _, by simpa using h⟩
    · obtain ⟨h1, h2⟩ := argSlots_get h
      refine ⟨by omega, ?_⟩
      rw [show t - i = (t - (i + 1)) + 1 by omega, List.getElem?_cons_succ]
      exact h2
/-- A function whose body is run does what the run says. -/
theorem callee_of (hE : EnvOk P E) {f : Nat} {args : List (V T)} {obs obs' : List (Ob T)} {e : Cfg T} {r : V T} (he : entry E f args obs = some e) (hG : Good P E e r obs') : Callee P E f args obs r obs' := by
  obtain ⟨fn, b, hfn, hb, rfl⟩ := entry_spec he
  obtain ⟨hpf, hname⟩ := hE.fns f fn hfn
  have hitems : ItemsOk .top ([.code b, .code .ret] : List (Item T)) [.code b] := .code .bot
  refine ⟨⟨fn, hpf, by rw [hb]; rfl, hname⟩, fun g w xs hi hr cs => ?_⟩
  have hsim : Sim P E ⟨bf f, marks [], [], .top, g, w⟩ { todo := [.code b, .code .ret], fr := argSlots 0 args, st := obs, fn := f, keep := obs.length, n := fn.ntmps, res := fn.results.toList } g w ((⟨xs⟩ : Array Value) ++ Array.replicate (fn.ntmps - xs.length) undef) [.code b] := by
    refine ⟨hi, fun t v hv => ?_, ?_, .items hitems, ⟨fn, hpf, rfl⟩, ⟨[], rfl, rfl, rfl, ⟨.nil, fun r h => by cases h⟩⟩, .refl _ _, .refl _ _⟩
    · obtain ⟨_, h1⟩ := argSlots_get hv
      rw [Nat.sub_zero] at h1
      obtain ⟨x, h2, h3⟩ := hr.get h1
      refine ⟨x, ?_, h3⟩
      have hlt := (List.getElem?_eq_some_iff.1 h2).1
      rw [Array.getElem?_append_left (by simpa using hlt)]
      simpa using h2
    · show fn.ntmps ≤ Array.size _
      simp
      omega
  obtain ⟨fr', w', g', x, h1, h2, h3, h4, h5, h6, h7⟩ := hG.sound ⟨_, _, hitems⟩ _ _ _ _ _ hsim cs
  refine ⟨.returned x, w', fr', ⟨x, g', rfl, ⟨h4, h5, fun i l hl => ?_⟩, h7⟩, ?_, h2, h3⟩
  · refine h6 i l ?_ hl
    show i < obs.length
    rw [← hi.len]
    exact (List.getElem?_eq_some_iff.1 hl).1
  · have : Frame.enter P f ⟨xs⟩ .normal = (bf f).atR ⟨(⟨xs⟩ : Array Value) ++ Array.replicate (fn.ntmps - xs.length) undef, []⟩ [.code b] := by
      simp [Frame.enter, Frame.atR, hpf, hb, bf]
      rfl
    rw [this]
    exact h1
theorem runs_good (hE : EnvOk P E) {X : Nat → List (V T) → List (Ob T) → V T → List (Ob T) → Prop} (hX : ∀ f args obs r obs', X f args obs r obs' → Callee P E f args obs r obs') {c : Cfg T} {v : V T} {st' : List (Ob T)} (h : Runs E X c v st') : Good P E c v st' := by
  induction h with
  | go h k ih => exact step_good hE (by rw [h]; exact ih)
  | need h k ih => exact step_good hE (by rw [h]; exact ⟨rfl, ih⟩)
  | br h kt kf iht ihf => exact step_good hE (by rw [h]; exact ⟨iht, ihf⟩)
  | fork h kd kc ihd ihc => exact step_good hE (by rw [h]; exact ⟨ihd, ihc⟩)
  | ext h hx hk ih => exact step_good hE (by rw [h]; exact ⟨_, _, hX _ _ _ _ _ hx, ih⟩)
  | enter h he hr hk ihr ih => exact step_good hE (by rw [h]; exact ⟨_, _, callee_of hE he ihr, ih⟩)
  | ret h => exact step_good hE (by rw [h]; exact ⟨rfl, rfl⟩)
  | cut h k ih => exact step_good hE (by rw [h]; exact ih)
/-- The one theorem: a run that the interpreter has is a call that the program makes. -/
theorem runs_callee (hE : EnvOk P E) {X : Nat → List (V T) → List (Ob T) → V T → List (Ob T) → Prop} (hX : ∀ f args obs r obs', X f args obs r obs' → Callee P E f args obs r obs') {f : Nat} {args : List (V T)} {obs obs' : List (Ob T)} {e : Cfg T} {r : V T}
    (he : entry E f args obs = some e) (h : Runs E X e r obs') : Callee P E f args obs r obs' := callee_of hE he (runs_good hE hX h)
end Go.Proofs.YtnenfgpjedddoaaGreat.AI
