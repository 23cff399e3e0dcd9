/- The abstract interpreter is right: whole runs. -/
import Derived.Test.YtnenfgpjedddoaaGreatAIRun2
set_option linter.unusedVariables false
set_option linter.unusedSectionVars false
set_option linter.unusedSimpArgs false
namespace Go.Proofs.YtnenfgpjedddoaaGreat.AI
open Go

variable {K : Type} [DecidableEq K] {T : K → Type} {E : Env T} {P : Program}
section
variable {c : Cfg T} {v : V T} {st' : List (Ob T)} {Z : Zone T} {g : Gh} {w : World} {tmps : Array Value} {todo : List Go.Item}

/-- On with other objects and slots, in the function's own frame. -/
theorem onward {c1 : Cfg T} {g1 : Gh} {todo1 : List Go.Item} (hZ : Z.kind = .top) (hS : Sim P E Z c g w tmps todo) (hG : Good P E c1 v st') (hs : ∀ cs, Steps P (Z.at tmps todo w cs) (Z.at tmps todo1 w cs)) (hi : Inv E g1 c1.st w) (hf : FrOk E g1 c1.fr tmps)
    (he : Ext g g1 w w) (hk : KinTo c.keep g g1) (h3 : c1.n = c.n) (h4 : c1.fn = c.fn) (h5 : c1.res = c.res) (h6 : c1.keep = c.keep) (ht : ItemsOk Z.kind c1.todo todo1) : Ends P E (Z.at tmps todo w) c.fn c.keep Z.g0 Z.w0 v st' :=
  Ends.next hs h4 h6 (hG.sound ⟨_, _, ht⟩ _ _ _ _ _ (hS.anew hZ he hk hi hf rfl h3 h4 h5 h6 (.items ht)))
/-- With other slots. -/
theorem slots {c1 : Cfg T} {todo1 : List Go.Item} (hS : Sim P E Z c g w tmps todo) (hG : Good P E c1 v st') (hs : ∀ cs, Steps P (Z.at tmps todo w cs) (Z.at tmps todo1 w cs))
    (h1 : c1.st = c.st) (hf : FrOk E g c1.fr tmps) (h3 : c1.n = c.n) (h4 : c1.fn = c.fn) (h5 : c1.res = c.res) (h6 : c1.keep = c.keep) (ht : ItemsOk Z.kind c1.todo todo1) : Ends P E (Z.at tmps todo w) c.fn c.keep Z.g0 Z.w0 v st' :=
  Ends.next hs h4 h6 (hG.sound ⟨_, _, ht⟩ _ _ _ _ _ (hS.to (.refl _ _) (.refl _) (by rw [h1]; exact hS.inv) hf rfl h3 h4 h5 h6 (.items ht)))
theorem quiet {c1 : Cfg T} {todo1 : List Go.Item} (hS : Sim P E Z c g w tmps todo) (hG : Good P E c1 v st') (hs : ∀ cs, Steps P (Z.at tmps todo w cs) (Z.at tmps todo1 w cs))
    (h1 : c1.st = c.st) (h2 : c1.fr = c.fr) (h3 : c1.n = c.n) (h4 : c1.fn = c.fn) (h5 : c1.res = c.res) (h6 : c1.keep = c.keep) (ht : ItemsOk Z.kind c1.todo todo1) : Ends P E (Z.at tmps todo w) c.fn c.keep Z.g0 Z.w0 v st' :=
  slots hS hG hs h1 (by rw [h2]; exact hS.fr) h3 h4 h5 h6 ht

theorem ret_good (hE : EnvOk P E) (hZ : Z.kind = .top) (hS : Sim P E Z c g w tmps todo) (hG : NxGood P E v st' (stepRet E c)) (hs : ∀ cs, Z.b.roundOf = none → Steps P (Z.at tmps todo w cs) (lone { Z.b.atR ⟨tmps, Z.ds⟩ todo with mode := .returning } (Z.above ++ cs) w)) : Ends P E (Z.at tmps todo w) c.fn c.keep Z.g0 Z.w0 v st' := by
  obtain ⟨fn, hfn, hres⟩ := hS.fnOk
  have hz := hS.zone
  unfold Zone.Ok at hz
  rw [hZ] at hz
  obtain ⟨rs, k1, k2, k3, k4⟩ := hz
  have fin : ∀ {u : V T} {X : World → Value}, (∀ w2, Inv E g c.st w2 → ∃ x, Rep E g u x ∧ (results fn tmps).run P w2 = .ok x w2) → (match leave E c u with
      | some (v, st) => Nx.ret v st
      | none => .stuck) = stepRet E c → Ends P E (Z.at tmps todo w) c.fn c.keep Z.g0 Z.w0 v st' := fun {u X} hr heq => by
    rw [← heq] at hG
    split at hG
    · rename_i v1 st1 hl
      obtain ⟨rfl, rfl⟩ := hG
      intro cs
      obtain ⟨w2, u1, u2, u3⟩ := unwind_marks (P := P) (E := E) (cs := Z.above ++ cs) rs (fr := { Z.b.atR ⟨tmps, Z.ds⟩ todo with mode := .returning }) hS.inv k4 hS.ext rfl k2
      obtain ⟨x, r1, r2⟩ := hr w2 u2
      obtain ⟨g', h1, h2, h3, h4⟩ := leave_ok hE u2 r1 hl
      refine ⟨{ ({ Z.b.atR ⟨tmps, Z.ds⟩ todo with mode := .returning } : Frame) with defers := [] }, w2, g', x, (hs cs (by rw [k1]; rfl)).trans ?_, ?_, ⟨rfl, rfl, ?_, fn, ?_, r2⟩, h1, u3.trans h2, hS.kin.trans h3, h4⟩
      · have := u1
        rw [k3, List.nil_append] at this ⊢
        exact this
      · show Z.b.fn = c.fn
        rw [k1]; rfl
      · show Z.b.kind = .normal
        rw [k1]; rfl
      · show P.funcs[Z.b.fn]? = some fn
        rw [k1]; exact hfn
    · exact hG.elim
  cases hv : resultV E c.fr c.st c.res with
  | none =>
    unfold stepRet at hG
    rw [hv] at hG
    exact hG.elim
  | some vs =>
    have hall : ∀ w2, Inv E g c.st w2 → ∃ xs, Reps E g vs xs ∧ (results fn tmps).run P w2 = .ok (if h : xs.toArray.size = 1 then xs.toArray[0] else .tuple xs.toArray) w2 := fun w2 hi2 => by
      obtain ⟨xs, h1, h2⟩ := resultV_ok (P := P) hE hi2 hS.fr _ _ hv
      rw [hres] at h1
      refine ⟨xs, h2, ?_⟩
      unfold results
      rw [Array.mapM_eq_mapM_toList]
      simp only [Sem.run_bind, Sem.run_map]
      exact (congrArg (fun r : Result (List Value) => ((r.andThen fun a w' => Result.ok a.toArray w').andThen fun a w' => Sem.run P (pure (if h : a.size = 1 then a[0] else Value.tuple a)) w')) h1).trans rfl
    match vs, hv, hall with
    | [], hv, hall =>
      refine fin (u := .tup []) (X := fun _ => undef) (fun w2 hi2 => ?_) (by unfold stepRet; rw [hv]; rfl)
      obtain ⟨xs, h2, hrun⟩ := hall w2 hi2
      cases h2
      exact ⟨_, .tup .nil, hrun⟩
    | [u], hv, hall =>
      refine fin (u := u) (X := fun _ => undef) (fun w2 hi2 => ?_) (by unfold stepRet; rw [hv]; rfl)
      obtain ⟨xs, h2, hrun⟩ := hall w2 hi2
      cases h2 with
      | cons a b =>
        cases b
        exact ⟨_, a, hrun⟩
    | u1 :: u2 :: us, hv, hall =>
      refine fin (u := .tup (u1 :: u2 :: us)) (X := fun _ => undef) (fun w2 hi2 => ?_) (by unfold stepRet; rw [hv]; rfl)
      obtain ⟨xs, h2, hrun⟩ := hall w2 hi2
      cases h2 with
      | cons a b =>
        cases b with
        | cons b d => exact ⟨_, .tup (.cons a (.cons b d)), by simpa using hrun⟩

theorem norm_ok {c1 : Cfg T} {live : List Nat} (hS : Sim P E Z c g w tmps todo) (h : c.norm live = some c1) : ∃ g1, Inv E g1 c1.st w ∧ FrOk E g1 c1.fr tmps ∧ Ext g g1 w w ∧ KinTo c.keep g g1 ∧ c1.n = c.n ∧ c1.fn = c.fn ∧ c1.res = c.res ∧ c1.keep = c.keep := by
  unfold Cfg.norm at h
  dsimp only at h
  obtain ⟨g1, h1⟩ := growSt_ok (E := E) c.st.length 0 hS.inv
  obtain ⟨l1, l2⟩ := lives_reps hS.fr live
  obtain ⟨g2, h2, h3⟩ := grows_ok _ h1.inv (l1.mono h1.le)
  split at h
  · rename_i ids vs' obs hp
    simp only [Option.some.injEq] at h
    subst h
    obtain ⟨g3, k1, k2, k3, k4⟩ := pack_fr hS.inv hS.fr (h1.trans h2) h3 hp
    exact ⟨g3, k1, k4, k2, k3, rfl, rfl, rfl, rfl⟩
  · cases h

theorem Inv.drawn {st : List (Ob T)} (hi : Inv E g st w) (n : Nat) : Inv E g st { w with drawn := n } := ⟨hi.froz, hi.len, hi.obs, hi.apart, hi.glob, hi.ints⟩
/-- A region whose order is drawn, as a whole. -/
theorem drawn_good (hE : EnvOk P E) {id : Nat} {ops : Array Oper} {k : List (Item T)} {k' : List Go.Item} (hZ : Z.kind = .top) (hS : Sim P E Z c g w tmps (.code (.region id ops true) :: k')) (ht : ItemsOk .top k k') (hG : Good P E (inReg c k ops true) v st') :
    Ends P E (Z.at tmps (.code (.region id ops true) :: k') w) c.fn c.keep Z.g0 Z.w0 v st' := by
  have hi := hS.inv
  have hf := hS.fr
  have hz := hS.zone
  unfold Zone.Ok at hz
  rw [hZ] at hz
  obtain ⟨rs, z1, z2, z3, z4⟩ := hz
  obtain ⟨L, fr1, st1, hrun, hidx, hop, hreg, hsound⟩ := (show DGood P E (inReg c k ops true) ops ops.toList 0 c.st.length [] k v st' from hG) ⟨k', ht⟩ rfl
  have hrun : Run P E ops c.n c.st.length (c.fr, c.st ++ List.replicate (4 * ops.size) Ob.dead) L (fr1, st1) := hrun
  rw [List.nil_append] at hreg
  simp only [regOk, Bool.and_eq_true] at hreg
  obtain ⟨⟨hbw, hfeet⟩, _⟩ := hreg
  rw [Nat.sub_zero] at hidx
  have hlen : L.length = ops.size := by
    have := congrArg List.length hidx
    simpa using this
  have hback : ∀ (b : Nat) (o : Oper), ops[b]? = some o → ∀ e ∈ o.after, Region.binds .any e = true → e.on < b := fun b o hb e h1 h2 => by
    have := backward_spec hbw b o (by simpa using hb) e h1 h2
    omega
  obtain ⟨d1, d2, d3⟩ := (hi.drawn (w.drawn + 1)).dead (4 * ops.size)
  have hsort : L.Pairwise (fun a b => a.i < b.i) := by
    have h1 : (L.map (·.i)).Pairwise (· < ·) := by rw [hidx]; exact List.pairwise_lt_range'
    exact (List.pairwise_map.1 h1)
  have hap : L.Pairwise (fun a b => ((Region.before ops).getD b.i 0).testBit a.i = true ∨ apart1 a.F b.F = true) := by
    have key : ∀ (M : List Lb), (∀ l ∈ M, l.F.idx = l.i) → footsOk (Region.before ops) (M.map (·.F)) = true → M.Pairwise (fun a b => ((Region.before ops).getD b.i 0).testBit a.i = true ∨ apart1 a.F b.F = true) := by
      intro M
      induction M with
      | nil => intro _ _; exact .nil
      | cons l M ih =>
        intro h1 h2
        simp only [List.map_cons, footsOk, Bool.and_eq_true, List.all_eq_true, Bool.or_eq_true] at h2
        refine .cons (fun m hm => ?_) (ih (fun m hm => h1 m (List.mem_cons_of_mem _ hm)) h2.2)
        have := h2.1 m.F (List.mem_map.2 ⟨m, hm, rfl⟩)
        rwa [h1 m (List.mem_cons_of_mem _ hm), h1 l (List.mem_cons_self ..)] at this
    exact key L (fun l hl => (hop l hl).2) hfeet
  have hany := any_order (P := P) (base := c.st.length) (n := c.n) (s' := (fr1, st1)) (a := ⟨tmps, marks rs⟩) (w := { w with drawn := w.drawn + 1 }) (Q := fun e a' w' => e = .normal ∧ a'.defers = marks rs ∧ a'.tmps.size = tmps.size ∧ ∃ g', To E _ { w with drawn := w.drawn + 1 } g' st1 w' ∧ FrOk E g' fr1 a'.tmps)
    hE hback ops.size L (Array.replicate ops.size false) (c.fr, c.st ++ List.replicate (4 * ops.size) .dead) _ (by omega) d1 (hf.mono d3) hS.size hrun (by simp)
    (fun i hi => by
      rw [show (Array.replicate ops.size false).getD i true = false by simp [hi]]
      simp only [true_iff]
      have : i ∈ L.map (·.i) := by rw [hidx]; simp [List.mem_range']; omega
      obtain ⟨l, h1, h2⟩ := List.mem_map.1 this
      exact ⟨l, h1, h2⟩)
    (fun l hl => (hop l hl).1) hsort hap
    (fun b o hb hl => by
      rw [show (Array.replicate ops.size false).getD b false = false by
        simp only [Array.getD_eq_getD_getElem?, Array.getElem?_replicate]
        split <;> rfl] at hl
      cases hl)
    (fun g' a' w' h1 h2 h3 h4 => ⟨rfl, h4, h3, g', h1, h2⟩)
  have hwp := wp_region_any (id := id) hE.mixed hany
  intro cs
  obtain ⟨e, a', w', ⟨rfl, hd', hs', g', hto, hf'⟩, harr⟩ := hwp (bf c.fn) k' cs
  have hact : a' = ⟨a'.tmps, marks rs⟩ := by
    cases a'
    simp only at hd'
    subst hd'
    rfl
  have hx : Ext g g w { w with drawn := w.drawn + 1 } := ⟨.refl _, rfl, rfl, rfl, Nat.le_refl _, fun _ _ _ => ⟨rfl, fun _ => rfl⟩, fun _ h => .inl h⟩
  have hsim : Sim P E Z { inReg c k ops true with todo := k, fr := fr1, st := st1 } g' w' a'.tmps k' :=
    hS.to (hx.trans (d2.trans hto.ext)) (d3.trans hto.le) hto.inv hf' hs' rfl rfl rfl rfl (.items (by rw [hZ]; exact ht))
  obtain ⟨fr', w2, g2, y, k1, k2⟩ := hsound _ _ _ _ _ hsim cs
  refine ⟨fr', w2, g2, y, Steps.trans ?_ k1, k2⟩
  unfold Zone.at
  rw [z1, z2, z3]
  rw [hact] at harr
  exact harr
end

theorem region_good (hE : EnvOk P E) {c : Cfg T} {v : V T} {st' : List (Ob T)} {Z : Zone T} {g : Gh} {w : World} {tmps : Array Value} {id : Nat} {ops : Array Oper} {draw : Bool} {k : List (Item T)} {k' : List Go.Item} (hZ : draw = true → Z.kind = .top) (hS : Sim P E Z c g w tmps (.code (.region id ops draw) :: k')) (hk : ItemsOk Z.kind k k')
    (hG : Good P E (inReg c k ops draw) v st') : Ends P E (Z.at tmps (.code (.region id ops draw) :: k') w) c.fn c.keep Z.g0 Z.w0 v st' := by
  have hreg : ItemsOk Z.kind (.ops ops ops.toList :: k) (.inRegion ops (List.range ops.size) :: k') := by
    have := ItemsOk.ops (all := ops) (i := 0) (rest := ops.toList) rfl hk
    rw [Nat.sub_zero, ← List.range_eq_range'] at this
    exact this
  cases draw with
  | false => exact quiet (c1 := inReg c k ops false) hS hG (fun cs => .one stepR_region) rfl rfl rfl rfl rfl rfl hreg
  | true => exact drawn_good hE (hZ rfl) hS (by rw [hZ rfl] at hk; exact hk) hG
end Go.Proofs.YtnenfgpjedddoaaGreat.AI
