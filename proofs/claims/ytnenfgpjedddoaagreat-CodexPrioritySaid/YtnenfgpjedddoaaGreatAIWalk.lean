/- Loops over what slices.Backward returns: the machine's way. -/
import Derived.Test.YtnenfgpjedddoaaGreatAIRun3
import Derived.IntWalk
set_option linter.unusedVariables false
set_option linter.unusedSectionVars false
set_option linter.unusedSimpArgs false
namespace Go.Proofs.YtnenfgpjedddoaaGreat.AI
open Go

variable {K : Type} [DecidableEq K] {T : K → Type} {E : Env T} {P : Program}

theorem wr64 {x : Int} (h1 : -9223372036854775808 ≤ x) (h2 : x ≤ 9223372036854775807) : IntKind.i64.wrap x = x := IntWalk.i64_in x ⟨h1, h2⟩
/-- The frame of what slices.Backward returned. -/
def gf (G : Nat) (tG : Array Value) (todo : List Go.Item) : Frame := (bf G).atR ⟨tG, []⟩ todo
/-- Between two operations of it. -/
structure GSt (P : Program) (E : Env T) (ys : List Nat) (y : Value) (st : List (Ob T)) (ga : Gh) (wa : World) (g : Gh) (w : World) (tG : Array Value) (fr : Fr T) : Prop where
  to : To E ga wa g st w
  fr : FrOk E g fr tG
  size : tG.size = 19
  yld : ∀ s ∈ ys, tG[s]? = some y
section
variable {ys : List Nat} {y : Value} {st : List (Ob T)} {ga : Gh} {wa : World} {g : Gh} {w : World} {tG : Array Value} {fr : Fr T} {G : Nat} {r : Array Oper} {ss : List (Nat × OpShape)} {j d s : Nat} {rest : List Nat} {k : List Go.Item} {cs : List Frame}
theorem gop (hE : EnvOk P E) (hs : GSt P E ys y st ga wa g w tG fr) {o : Oper} (ho : r[j]? = some o) (hd : o.dst = some d) (hg : o.guard = none) (h19 : d < 19) (hys : d ∉ ys) {a : Ask T} (ha : opAct E fr o = some a) {rd : List Nat} {u : V T}
    (hr : Res P E 0 st a rd [] (some u) st) : ∃ g' w' tG', Steps P (lone (gf G tG (.inRegion r (j :: rest) :: k)) cs w) (lone (gf G tG' (.inRegion r rest :: k)) cs w') ∧ GSt P E ys y st ga wa g' w' tG' ((d, some u) :: fr) := by
  have hwant : Region.wanted o (yielded r tG) = true := by
    unfold Region.wanted
    rw [hg]
  obtain ⟨a', w', ⟨g', x, rfl, hto, hx⟩, hsteps⟩ := one_op (b := bf G) (k := k) (rest := rest) ho hwant (opAct_nodefer ha)
    (hr.wp (a := ⟨tG, []⟩) hE hs.to.inv hs.fr ha (R := fun a' w' => ∃ g' x, a' = (⟨tG, []⟩ : Act).put o.dst x ∧ To E g w g' st w' ∧ RepO E g' (some u) x) fun g' w' x h1 h2 => ⟨g', x, rfl, h1, h2⟩) cs
  rw [hd] at hsteps
  refine ⟨g', w', tG.setIfInBounds d x, hsteps, hs.to.trans hto, ?_, by simp [hs.size], fun t ht => ?_⟩
  · have := FrOk.putO (n := 19) (a := ⟨tG, []⟩) (d := some d) (v := some u) (x := x) (hs.fr.mono hto.le) hx (Nat.ble_eq_true_of_le h19) (by simp [hs.size])
    exact this
  · rw [Array.getElem?_setIfInBounds_ne (fun e => by subst e; exact hys ht)]
    exact hs.yld t ht
theorem Shapes.at (hS : Shapes ss r) {sh : OpShape} (hj : ss[j]? = some (d, sh)) : ∃ o, r[j]? = some o ∧ o.dst = some d ∧ o.guard = none ∧ Shaped sh o.op := hS.2 j d sh hj
theorem opAct_mov {o : Oper} (h : Shaped (.mov s) o.op) : opAct E fr o = moveA E fr o (.tmp s) := by
  unfold opAct
  rcases h with h | h <;> rw [h]
theorem g_mov (hE : EnvOk P E) (hs : GSt P E ys y st ga wa g w tG fr) (hS : Shapes ss r) {x : Int} (hj : ss[j]? = some (d, .mov s)) (h19 : d < 19) (hys : d ∉ ys) (hv : Fr.get fr s = some (.int .i64 x)) :
    ∃ g' w' tG', Steps P (lone (gf G tG (.inRegion r (j :: rest) :: k)) cs w) (lone (gf G tG' (.inRegion r rest :: k)) cs w') ∧ GSt P E ys y st ga wa g' w' tG' ((d, some (.int .i64 x)) :: fr) := by
  obtain ⟨o, h1, h2, h3, h4⟩ := hS.at hj
  refine gop hE hs h1 h2 h3 h19 hys (a := .val (.int .i64 x)) ?_ (.val _)
  rw [opAct_mov h4]
  simp [moveA, evalO, hv, coerce]
theorem g_sub (hE : EnvOk P E) (hs : GSt P E ys y st ga wa g w tG fr) (hS : Shapes ss r) {x : Int} (hj : ss[j]? = some (d, .sub s)) (h19 : d < 19) (hys : d ∉ ys) (hv : Fr.get fr s = some (.int .i64 x)) (h1 : -9223372036854775808 ≤ x - 1) (h2 : x - 1 ≤ 9223372036854775807) :
    ∃ g' w' tG', Steps P (lone (gf G tG (.inRegion r (j :: rest) :: k)) cs w) (lone (gf G tG' (.inRegion r rest :: k)) cs w') ∧ GSt P E ys y st ga wa g' w' tG' ((d, some (.int .i64 (x - 1))) :: fr) := by
  obtain ⟨o, k1, k2, k3, t, u, k4⟩ := hS.at hj
  refine gop hE hs k1 k2 k3 h19 hys (a := .val (.int .i64 (x - 1))) ?_ (.val _)
  unfold opAct
  rw [k4]
  simp [binOpA, evalO, hv, constV, binV, ints, wr64 h1 h2]
theorem g_geq (hE : EnvOk P E) (hs : GSt P E ys y st ga wa g w tG fr) (hS : Shapes ss r) {x : Int} (hj : ss[j]? = some (d, .geq s)) (h19 : d < 19) (hys : d ∉ ys) (hv : Fr.get fr s = some (.int .i64 x)) :
    ∃ g' w' tG', Steps P (lone (gf G tG (.inRegion r (j :: rest) :: k)) cs w) (lone (gf G tG' (.inRegion r rest :: k)) cs w') ∧ GSt P E ys y st ga wa g' w' tG' ((d, some (.bool (decide (0 ≤ x)))) :: fr) := by
  obtain ⟨o, k1, k2, k3, t, u, k4⟩ := hS.at hj
  refine gop hE hs k1 k2 k3 h19 hys (a := .val (.bool (decide (0 ≤ x)))) ?_ (.val _)
  unfold opAct
  rw [k4]
  simp [binOpA, evalO, hv, constV, binV, ints]
theorem g_not (hE : EnvOk P E) (hs : GSt P E ys y st ga wa g w tG fr) (hS : Shapes ss r) {b : Bool} (hj : ss[j]? = some (d, .not s)) (h19 : d < 19) (hys : d ∉ ys) (hv : Fr.get fr s = some (.bool b)) :
    ∃ g' w' tG', Steps P (lone (gf G tG (.inRegion r (j :: rest) :: k)) cs w) (lone (gf G tG' (.inRegion r rest :: k)) cs w') ∧ GSt P E ys y st ga wa g' w' tG' ((d, some (.bool !b)) :: fr) := by
  obtain ⟨o, k1, k2, k3, t, k4⟩ := hS.at hj
  refine gop hE hs k1 k2 k3 h19 hys (a := .val (.bool !b)) ?_ (.val _)
  unfold opAct
  rw [k4]
  simp [unOpA, evalO, hv, unV]
theorem listAt_spec {e : K} {cap : V T} {xs : List (T e)} (h : listAt e st cap = some xs) : ∃ i b ow cs, cap = .ptr i 0 ∧ st[i]? = some (.box b (.sl e xs ow :: cs)) := by
  unfold listAt at h
  split at h
  · rename_i i
    split at h
    · rename_i b e' xs' ow cs hb
      unfold listOf at h
      dsimp only at h
      split at h
      · rename_i he _
        subst he
        simp only [Option.some.injEq] at h
        subst h
        exact ⟨i, b, ow, cs, rfl, hb⟩
      · cases h
    · cases h
  · cases h
theorem g_list (hE : EnvOk P E) (hs : GSt P E ys y st ga wa g w tG fr) (hS : Shapes ss r) {e : K} {ts : Nat} (hts : E.ty ts = .slice e) {cap : V T} {xs : List (T e)} (hl : listAt e st cap = some xs) (hj : ss[j]? = some (d, .load ts s)) (h19 : d < 19) (hys : d ∉ ys) (hv : Fr.get fr s = some cap) :
    ∃ ow g' w' tG', Steps P (lone (gf G tG (.inRegion r (j :: rest) :: k)) cs w) (lone (gf G tG' (.inRegion r rest :: k)) cs w') ∧ GSt P E ys y st ga wa g' w' tG' ((d, some (.sl e xs ow)) :: fr) := by
  obtain ⟨o, k1, k2, k3, k4⟩ := hS.at hj
  obtain ⟨i, b, ow, cs', rfl, hb⟩ := listAt_spec hl
  refine ⟨ow, gop hE hs k1 k2 k3 h19 hys (a := .rd i (loadBox E ts 0)) ?_ (.rd ?_)⟩
  · unfold opAct
    rw [show o.op = .load ts (.tmp s) from k4]
    simp [loadA, globA, evalO, hv, loadV]
  · simp [hb, loadBox, cut, hts]
theorem g_len (hE : EnvOk P E) (hs : GSt P E ys y st ga wa g w tG fr) (hS : Shapes ss r) {e : K} {ts : Nat} (hts : E.ty ts = .slice e) {xs : List (T e)} {ow : Own} (hj : ss[j]? = some (d, .len ts s)) (h19 : d < 19) (hys : d ∉ ys) (hv : Fr.get fr s = some (.sl e xs ow)) :
    ∃ g' w' tG', Steps P (lone (gf G tG (.inRegion r (j :: rest) :: k)) cs w) (lone (gf G tG' (.inRegion r rest :: k)) cs w') ∧ GSt P E ys y st ga wa g' w' tG' ((d, some (.int .i64 (xs.length : Int))) :: fr) := by
  obtain ⟨o, k1, k2, k3, k4⟩ := hS.at hj
  refine gop hE hs k1 k2 k3 h19 hys (a := .val (.int .i64 (xs.length : Int))) ?_ (.val _)
  unfold opAct
  rw [show o.op = _ from k4]
  simp [callA, argsV, evalO, hv, coerce, builtinV, lenV, hts]
theorem g_idx (hE : EnvOk P E) (hs : GSt P E ys y st ga wa g w tG fr) (hS : Shapes ss r) {e : K} {ts s2 : Nat} (hts : E.ty ts = .slice e) {xs : List (T e)} {ow : Own} {i : Nat} (hi : i < xs.length) (hj : ss[j]? = some (d, .idx ts s s2)) (h19 : d < 19) (hys : d ∉ ys) (hv : Fr.get fr s = some (.sl e xs ow)) (hv2 : Fr.get fr s2 = some (.int .i64 (i : Int))) :
    ∃ g' w' tG', Steps P (lone (gf G tG (.inRegion r (j :: rest) :: k)) cs w) (lone (gf G tG' (.inRegion r rest :: k)) cs w') ∧ GSt P E ys y st ga wa g' w' tG' ((d, some (.adr (E.enc e (xs.getD i (E.dflt e))))) :: fr) := by
  obtain ⟨o, k1, k2, k3, k4⟩ := hS.at hj
  refine gop hE hs k1 k2 k3 h19 hys (rd := []) (a := .need (within (i : Int) (xs.length : Int)) (.adr (E.enc e (xs.getD i (E.dflt e))))) ?_ ?_
  · unfold opAct
    rw [show o.op = _ from k4]
    simp [indexAddrA, evalO, hv, hv2, hts]
  · have : within (i : Int) (xs.length : Int) = true := by simp [within]; omega
    rw [this]
    exact .need _
theorem g_elem (hE : EnvOk P E) (hs : GSt P E ys y st ga wa g w tG fr) (hS : Shapes ss r) {te : Nat} {ws : List (V T)} {v : V T} (hc : cut E te ws = some v) (hj : ss[j]? = some (d, .load te s)) (h19 : d < 19) (hys : d ∉ ys) (hv : Fr.get fr s = some (.adr ws)) :
    ∃ g' w' tG', Steps P (lone (gf G tG (.inRegion r (j :: rest) :: k)) cs w) (lone (gf G tG' (.inRegion r rest :: k)) cs w') ∧ GSt P E ys y st ga wa g' w' tG' ((d, some v) :: fr) := by
  obtain ⟨o, k1, k2, k3, k4⟩ := hS.at hj
  refine gop hE hs k1 k2 k3 h19 hys (a := .val v) ?_ (.val _)
  unfold opAct
  rw [show o.op = _ from k4]
  simp [loadA, globA, evalO, hv, loadV, hc]
/-- The move of yield itself. -/
theorem g_yield (hs : GSt P E [0] y st ga wa g w tG fr) (hS : Shapes ss r) (hj : ss[j]? = some (d, .mov 0)) (h19 : d < 19) (hfr : Fr.get fr d = none) (hd0 : d ≠ 0) :
    ∃ tG', Steps P (lone (gf G tG (.inRegion r (j :: rest) :: k)) cs w) (lone (gf G tG' (.inRegion r rest :: k)) cs w) ∧ GSt P E [0, d] y st ga wa g w tG' fr := by
  obtain ⟨o, k1, k2, k3, k4⟩ := hS.at hj
  have hwant : Region.wanted o (yielded r tG) = true := by
    unfold Region.wanted
    rw [k3]
  have hop : ∀ c, o.op ≠ .defer c := fun c h => by
    rcases k4 with k4 | k4 <;> rw [h] at k4 <;> cases k4
  have h0 := hs.yld 0 (by simp)
  have heval : (⟨tG, []⟩ : Act).eval (.tmp 0) = y := by simp [Act.eval, Array.getD_eq_getD_getElem?, h0]
  obtain ⟨a', w', ⟨rfl, rfl⟩, hsteps⟩ := one_op (P := P) (b := bf G) (a := ⟨tG, []⟩) (k := k) (rest := rest) (w := w) k1 hwant hop (R := fun a' w' => a' = (⟨tG, []⟩ : Act).put o.dst y ∧ w' = w) (by
    unfold Oper.wp
    rcases k4 with k4 | k4 <;> simp [execOp, k4, heval, Oper.upon]) cs
  rw [k2] at hsteps
  refine ⟨tG.setIfInBounds d y, hsteps, hs.to, fun t v ht => ?_, by simp [hs.size], fun t ht => ?_⟩
  · obtain ⟨x, h1, h2⟩ := hs.fr t v ht
    refine ⟨x, ?_, h2⟩
    rw [Array.getElem?_setIfInBounds_ne (fun e => by subst e; rw [hfr] at ht; cases ht)]
    exact h1
  · simp only [List.mem_cons, List.not_mem_nil, or_false] at ht
    rcases ht with rfl | rfl
    · rw [Array.getElem?_setIfInBounds_ne hd0]; exact h0
    · have : t < tG.size := by rw [hs.size]; exact h19
      simp [this]
end
end Go.Proofs.YtnenfgpjedddoaaGreat.AI
