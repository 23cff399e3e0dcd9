/- The abstract interpreter is right: whole runs. -/
import Derived.Test.YtpgghakjbghagaaAIRun2
set_option linter.unusedVariables false
set_option linter.unusedSectionVars false
set_option linter.unusedSimpArgs false
namespace Go.Proofs.Ytpgghakjbghagaa.AI
open Go

variable {K : Type} [DecidableEq K] {T : K → Type} {E : Env T} {P : Program}
section
variable {c : Cfg T} {v : V T} {st' : List (Ob T)} {g : Gh} {w : World} {tmps : Array Value} {todo : List Go.Item}

/-- On with other objects and slots. -/
theorem onward {c1 : Cfg T} {g1 : Gh} {todo1 : List Go.Item} (hS : Sim P E c g w tmps todo) (hG : Good P E c1 v st') (hs : ∀ cs, Steps P (lone ((bf c.fn).at ⟨tmps, []⟩ todo) cs w) (lone ((bf c.fn).at ⟨tmps, []⟩ todo1) cs w)) (hi : Inv E g1 c1.st w) (hf : FrOk E g1 c1.fr tmps)
    (he : Ext g g1 w w) (hk : KinTo c.keep g g1) (h3 : c1.n = c.n) (h4 : c1.fn = c.fn) (h5 : c1.res = c.res) (h6 : c1.keep = c.keep) (ht : ItemsOk c1.todo todo1) : Ends P E c g w tmps todo v st' :=
  Ends.next hs he hk h4 h6 (hG.sound ⟨_, ht⟩ _ _ _ _ (hS.world hi hf rfl h3 h4 h5 (.items ht)))
theorem quiet {c1 : Cfg T} {todo1 : List Go.Item} (hS : Sim P E c g w tmps todo) (hG : Good P E c1 v st') (hs : ∀ cs, Steps P (lone ((bf c.fn).at ⟨tmps, []⟩ todo) cs w) (lone ((bf c.fn).at ⟨tmps, []⟩ todo1) cs w))
    (h1 : c1.st = c.st) (h2 : c1.fr = c.fr) (h3 : c1.n = c.n) (h4 : c1.fn = c.fn) (h5 : c1.res = c.res) (h6 : c1.keep = c.keep) (ht : ItemsOk c1.todo todo1) : Ends P E c g w tmps todo v st' :=
  onward hS hG hs (by rw [h1]; exact hS.inv) (by rw [h2]; exact hS.fr) (.refl _ _) (.refl _ _) h3 h4 h5 h6 ht

theorem ret_good (hE : EnvOk P E) (hS : Sim P E c g w tmps todo) (hG : NxGood P E v st' (stepRet E c)) (hs : ∀ cs, Steps P (lone ((bf c.fn).at ⟨tmps, []⟩ todo) cs w) (lone { (bf c.fn).at ⟨tmps, []⟩ todo with mode := .returning } cs w)) : Ends P E c g w tmps todo v st' := by
  obtain ⟨fn, hfn, hres⟩ := hS.fnOk
  have fin : ∀ {u : V T} {x : Value}, Rep E g u x → (results fn tmps).run P w = .ok x w → (match leave E c u with
      | some (v, st) => Nx.ret v st
      | none => .stuck) = stepRet E c → Ends P E c g w tmps todo v st' := fun {u x} hr hrun heq => by
    rw [← heq] at hG
    split at hG
    · rename_i v1 st1 hl
      obtain ⟨rfl, rfl⟩ := hG
      obtain ⟨g', h1, h2, h3, h4⟩ := leave_ok hE hS.inv hr hl
      exact fun cs => ⟨_, w, g', x, hs cs, rfl, ⟨rfl, rfl, rfl, fn, hfn, hrun⟩, h1, h2, h3, h4⟩
    · exact hG.elim
  cases hv : resultV E c.fr c.st c.res with
  | none =>
    unfold stepRet at hG
    rw [hv] at hG
    exact hG.elim
  | some vs =>
    obtain ⟨xs, h1, h2⟩ := resultV_ok hE hS.inv hS.fr _ _ hv
    rw [hres] at h1
    have hrun : (results fn tmps).run P w = .ok (if h : xs.toArray.size = 1 then xs.toArray[0] else .tuple xs.toArray) w := by
      unfold results
      rw [Array.mapM_eq_mapM_toList]
      simp only [Sem.run_bind, Sem.run_map]
      exact (congrArg (fun r : Result (List Value) => ((r.andThen fun a w' => Result.ok a.toArray w').andThen fun a w' => Sem.run P (pure (if h : a.size = 1 then a[0] else Value.tuple a)) w')) h1).trans rfl
    cases h2 with
    | nil => exact fin (u := .tup []) (.tup .nil) hrun (by unfold stepRet; rw [hv]; rfl)
    | cons a b =>
      cases b with
      | nil => exact fin a hrun (by unfold stepRet; rw [hv]; rfl)
      | cons b d => exact fin (.tup (.cons a (.cons b d))) (by simpa using hrun) (by unfold stepRet; rw [hv]; rfl)

theorem norm_ok {c1 : Cfg T} {live : List Nat} (hS : Sim P E c g w tmps todo) (h : c.norm live = some c1) : ∃ g1, Inv E g1 c1.st w ∧ FrOk E g1 c1.fr tmps ∧ Ext g g1 w w ∧ KinTo c.keep g g1 ∧ c1.n = c.n ∧ c1.fn = c.fn ∧ c1.res = c.res ∧ c1.keep = c.keep := by
  unfold Cfg.norm at h
  dsimp only at h
  obtain ⟨g1, h1⟩ := growSt_ok (E := E) c.st.length 0 hS.inv
  obtain ⟨l1, l2⟩ := lives_reps hS.fr live
  obtain ⟨g2, h2, h3⟩ := grows_ok _ h1.inv (l1.mono h1.le)
  split at h
  · rename_i ids vs' obs hp
    simp only [Option.some.injEq] at h
    subst h
    obtain ⟨g3, k1, k2, k3, k4⟩ := pack_fr hS.inv hS.fr (h1.trans h2) h3 hp
    exact ⟨g3, k1, k4, k2, k3, rfl, rfl, rfl, rfl⟩
  · cases h

theorem Inv.drawn {st : List (Ob T)} (hi : Inv E g st w) (n : Nat) : Inv E g st { w with drawn := n } := ⟨hi.froz, hi.len, hi.obs, hi.apart, hi.glob⟩
/-- A region whose order is drawn, as a whole. -/
theorem drawn_good (hE : EnvOk P E) {c1 : Cfg T} {g1 : Gh} {id : Nat} {ops : Array Oper} {k : List (Item T)} {k' : List Go.Item} (hS : Sim P E c g w tmps (.code (.region id ops true) :: k')) (hi : Inv E g1 c1.st w) (hf : FrOk E g1 c1.fr tmps)
    (he : Ext g g1 w w) (hk : KinTo c.keep g g1) (h3 : c1.n = c.n) (h4 : c1.fn = c.fn) (h5 : c1.res = c.res) (h6 : c1.keep = c.keep) (ht : ItemsOk k k') (hG : Good P E (inReg c1 k ops true) v st') : Ends P E c g w tmps (.code (.region id ops true) :: k') v st' := by
  obtain ⟨L, fr1, st1, hrun, hidx, hop, hreg, hsound⟩ := (show DGood P E (inReg c1 k ops true) ops ops.toList 0 c1.st.length [] k v st' from hG) ⟨k', ht⟩ rfl
  have hrun : Run P E ops c1.n c1.st.length (c1.fr, c1.st ++ List.replicate (4 * ops.size) Ob.dead) L (fr1, st1) := hrun
  rw [List.nil_append] at hreg
  simp only [regOk, Bool.and_eq_true] at hreg
  obtain ⟨⟨hbw, hfeet⟩, _⟩ := hreg
  rw [Nat.sub_zero] at hidx
  have hlen : L.length = ops.size := by
    have := congrArg List.length hidx
    simpa using this
  have hback : ∀ (b : Nat) (o : Oper), ops[b]? = some o → ∀ e ∈ o.after, Region.binds .any e = true → e.on < b := fun b o hb e h1 h2 => by
    have := backward_spec hbw b o (by simpa using hb) e h1 h2
    omega
  obtain ⟨d1, d2, d3⟩ := (hi.drawn (w.drawn + 1)).dead (4 * ops.size)
  have hsort : L.Pairwise (fun a b => a.i < b.i) := by
    have h1 : (L.map (·.i)).Pairwise (· < ·) := by rw [hidx]; exact List.pairwise_lt_range'
    exact (List.pairwise_map.1 h1)
  have hap : L.Pairwise (fun a b => ((Region.before ops).getD b.i 0).testBit a.i = true ∨ apart1 a.F b.F = true) := by
    have key : ∀ (M : List Lb), (∀ l ∈ M, l.F.idx = l.i) → footsOk (Region.before ops) (M.map (·.F)) = true → M.Pairwise (fun a b => ((Region.before ops).getD b.i 0).testBit a.i = true ∨ apart1 a.F b.F = true) := by
      intro M
      induction M with
      | nil => intro _ _; exact .nil
      | cons l M ih =>
        intro h1 h2
        simp only [List.map_cons, footsOk, Bool.and_eq_true, List.all_eq_true, Bool.or_eq_true] at h2
        refine .cons (fun m hm => ?_) (ih (fun m hm => h1 m (List.mem_cons_of_mem _ hm)) h2.2)
        have := h2.1 m.F (List.mem_map.2 ⟨m, hm, rfl⟩)
        rwa [h1 m (List.mem_cons_of_mem _ hm), h1 l (List.mem_cons_self ..)] at this
    exact key L (fun l hl => (hop l hl).2) hfeet
  have hany := any_order (P := P) (base := c1.st.length) (n := c1.n) (s' := (fr1, st1)) (a := ⟨tmps, []⟩) (w := { w with drawn := w.drawn + 1 }) (Q := fun e a' w' => e = .normal ∧ a'.defers = [] ∧ a'.tmps.size = tmps.size ∧ ∃ g', To E _ { w with drawn := w.drawn + 1 } g' st1 w' ∧ FrOk E g' fr1 a'.tmps)
    hE hback ops.size L (Array.replicate ops.size false) (c1.fr, c1.st ++ List.replicate (4 * ops.size) .dead) _ (by omega) d1 (hf.mono d3) (by rw [h3]; exact hS.size) hrun (by simp)
    (fun i hi => by
      rw [show (Array.replicate ops.size false).getD i true = false by simp [hi]]
      simp only [true_iff]
      have : i ∈ L.map (·.i) := by rw [hidx]; simp [List.mem_range']; omega
      obtain ⟨l, h1, h2⟩ := List.mem_map.1 this
      exact ⟨l, h1, h2⟩)
    (fun l hl => (hop l hl).1) hsort hap
    (fun b o hb hl => by
      rw [show (Array.replicate ops.size false).getD b false = false by
        simp only [Array.getD_eq_getD_getElem?, Array.getElem?_replicate]
        split <;> rfl] at hl
      cases hl)
    (fun g' a' w' h1 h2 h3 h4 => ⟨rfl, h4, h3, g', h1, h2⟩)
  have hwp := wp_region_any (id := id) hE.mixed hany
  intro cs
  obtain ⟨e, a', w', ⟨rfl, hd', hs', g', hto, hf'⟩, harr⟩ := hwp (bf c.fn) k' cs
  have hsim : Sim P E { inReg c1 k ops true with todo := k, fr := fr1, st := st1 } g' w' a'.tmps k' :=
    hS.world hto.inv hf' hs' h3 h4 h5 (.items ht)
  obtain ⟨fr', w2, g2, y, k1, k2, k3, k4, k5, k6, k7⟩ := hsound _ _ _ _ hsim cs
  have hact : a' = ⟨a'.tmps, []⟩ := by
    cases a'
    simp only at hd'
    subst hd'
    rfl
  rw [hact] at harr
  have hfn : (inReg c1 k ops true).fn = c.fn := h4
  have hkeep : (inReg c1 k ops true).keep = c.keep := h6
  dsimp only at k1 k2 k6
  rw [hfn] at k1 k2
  rw [hkeep] at k6
  have hx : Ext g g1 w { w with drawn := w.drawn + 1 } := ⟨he.G, he.os, he.tape, he.output, he.size, he.keeps, he.own⟩
  exact ⟨fr', w2, g2, y, Steps.trans harr k1, k2, k3, k4, (hx.trans (d2.trans hto.ext)).trans k5, (hk.trans ((d3.kin _).trans (hto.le.kin _))).trans k6, k7⟩
end

theorem region_good (hE : EnvOk P E) {c : Cfg T} {v : V T} {st' : List (Ob T)} {g : Gh} {w : World} {tmps : Array Value} {id : Nat} {ops : Array Oper} {draw : Bool} {k : List (Item T)} {k' : List Go.Item} (hS : Sim P E c g w tmps (.code (.region id ops draw) :: k')) (hk : ItemsOk k k')
    (hG : Good P E (inReg c k ops draw) v st') : Ends P E c g w tmps (.code (.region id ops draw) :: k') v st' := by
  have hreg : ItemsOk (.ops ops ops.toList :: k) (.inRegion ops (List.range ops.size) :: k') := by
    have := ItemsOk.ops (all := ops) (i := 0) (rest := ops.toList) rfl hk
    rw [Nat.sub_zero, ← List.range_eq_range'] at this
    exact this
  cases draw with
  | false => exact quiet (c1 := inReg c k ops false) hS hG (fun cs => .one step_region) rfl rfl rfl rfl rfl rfl hreg
  | true => exact drawn_good hE hS hS.inv hS.fr (.refl _ _) (.refl _ _) rfl rfl rfl rfl hk hG
theorem code_good (hE : EnvOk P E) {c : Cfg T} {v : V T} {st' : List (Ob T)} {k : List (Item T)} {a : Code} (hc : c.todo = .code a :: k) (hG : NxGood P E v st' (stepCode E c k a)) : Sound P E c v st' := by
  intro g w tmps todo hS
  have htop := hS.top
  cases htop with
  | on hc' => rw [hc] at hc'; cases hc'
  | items hi =>
    rw [hc] at hi
    have hret : a = .ret → (∀ cs, Steps P (lone ((bf c.fn).at ⟨tmps, []⟩ todo) cs w) (lone { (bf c.fn).at ⟨tmps, []⟩ todo with mode := .returning } cs w)) → Ends P E c g w tmps todo v st' := fun ha hs => by
      subst ha
      exact ret_good hE hS hG hs
    cases hi with
    | bot => exact hret rfl fun cs => .one step_end
    | @code _ _ k' hk =>
      cases a with
      | ret => exact hret rfl fun cs => .one step_ret
      | skip => exact quiet (c1 := { c with todo := k }) hS hG (fun cs => .one step_skip) rfl rfl rfl rfl rfl rfl hk
      | seq x y => exact quiet (c1 := { c with todo := .code x :: .code y :: k }) hS hG (fun cs => .one step_seq) rfl rfl rfl rfl rfl rfl (.code (.code hk))
      | cond x y z =>
        simp only [stepCode, stepCond] at hG
        split at hG
        · rename_i t ht
          have hx := evalO_ok (a := ⟨tmps, []⟩) hS.fr ht
          have hb := hx.bool_inv
          cases t with
          | true => exact quiet hS (hG.1 rfl) (fun cs => .one (step_cond (t := true) hb)) rfl rfl rfl rfl rfl rfl (.code hk)
          | false => exact quiet hS (hG.2 rfl) (fun cs => .one (step_cond (t := false) hb)) rfl rfl rfl rfl rfl rfl (.code hk)
        · exact hG.elim
      | block id body => exact quiet (c1 := { c with todo := .code body :: .inBlock id :: k }) hS hG (fun cs => .one step_block) rfl rfl rfl rfl rfl rfl (.code (.inBlock hk))
      | loop body => exact quiet (c1 := { c with todo := .code body :: .inLoop body (match E.cuts c.fn with | true => none | false => some (slotsOf [] c.fr)) :: k }) hS hG (fun cs => .one step_loop) rfl rfl rfl rfl rfl rfl (.code (.inLoop hk))
      | exit id =>
        simp only [stepCode, stepExit] at hG
        split at hG
        · rename_i r hr
          obtain ⟨r', h1, h2⟩ := hk.exitTo hr
          exact quiet hS hG (fun cs => .one (step_exit h1)) rfl rfl rfl rfl rfl rfl h2
        · exact hG.elim
      | region id ops draw =>
        simp only [stepCode, stepRegion] at hG
        split at hG
        · rename_i live _
          split at hG
          · rename_i c1 hn
            obtain ⟨g1, n1, n2, n3, n4, n5, n6, n7, n8⟩ := norm_ok hS hn
            exact onward (c1 := { c1 with todo := .reg id ops draw :: k }) hS hG (fun cs => .refl _ _) n1 n2 n3 n4 n5 n6 n7 n8 (.reg hk)
          · exact hG.elim
        · exact region_good hE hS hk hG
      | _ => exact hG.elim

theorem ops_good (hE : EnvOk P E) {c : Cfg T} {v : V T} {st' : List (Ob T)} {k : List (Item T)} {all : Array Oper} {rest : List Oper} (hc : c.todo = .ops all rest :: k) (hG : NxGood P E v st' (stepOps E c k all rest)) : Sound P E c v st' := by
  intro g w tmps todo hS
  have htop := hS.top
  cases htop with
  | on hc' => rw [hc] at hc'; cases hc'
  | items hi =>
    rw [hc] at hi
    cases hi with
    | @ops _ _ _ k' i hd hk =>
      cases rest with
      | nil =>
        have : all.size ≤ i := by
          have := List.drop_eq_nil_iff.1 hd
          simpa using this
        rw [show all.size - i = 0 by omega]
        refine quiet (c1 := { c with todo := k }) (hS := ?_) hG (fun cs => .one step_region_end) rfl rfl rfl rfl rfl rfl hk
        rw [show all.size - i = 0 by omega] at hS
        exact hS
      | cons o rest =>
        have hil : i < all.size := by
          refine Nat.lt_of_not_le fun hle => ?_
          rw [List.drop_eq_nil_of_le (by simpa using hle)] at hd
          cases hd
        have hio : all[i]? = some o := by
          have : (all.toList.drop i)[0]? = some o := by rw [hd]; rfl
          rw [List.getElem?_drop] at this
          simpa using this
        have hrest : all.toList.drop (i + 1) = rest := by
          rw [← List.tail_drop, hd]
          rfl
        have hrange : List.range' i (all.size - i) = i :: List.range' (i + 1) (all.size - (i + 1)) := by
          rw [show all.size - i = (all.size - (i + 1)) + 1 by omega, List.range'_succ]
        rw [hrange] at hS ⊢
        simp only [stepOps] at hG
        split at hG
        · exact hG.elim
        rename_i hdst
        -- an operation that is not wanted
        have skip : ∀ {fr1 : Fr T}, FrOk E g fr1 tmps → GNo all o c.fr → Good P E { c with todo := .ops all rest :: k, fr := fr1.drop o.dst } v st' → Ends P E c g w tmps (.inRegion all (i :: List.range' (i + 1) (all.size - (i + 1))) :: k') v st' := fun {fr1} hf1 hn hg => by
          have hw := GNo.wanted (all := all) (o := o) hS.fr hn
          have hitems : ItemsOk (.ops all rest :: k) (.inRegion all (List.range' (i + 1) (all.size - (i + 1))) :: k') := .ops hrest hk
          have hfr : FrOk E g (fr1.drop o.dst) ((⟨tmps, []⟩ : Act).put o.dst undef).tmps := FrOk.putO (a := ⟨tmps, []⟩) (v := none) hf1 rfl hdst hS.size
          have hact : (⟨tmps, []⟩ : Act).put o.dst undef = ⟨((⟨tmps, []⟩ : Act).put o.dst undef).tmps, []⟩ := by
            cases hdd : o.dst <;> rfl
          refine Ends.next (c1 := { c with todo := .ops all rest :: k, fr := fr1.drop o.dst }) (tmps1 := ((⟨tmps, []⟩ : Act).put o.dst undef).tmps) (fun cs => ?_) (.refl _ _) (.refl _ _) rfl rfl (hg.sound ⟨_, hitems⟩ _ _ _ _ (hS.world hS.inv hfr (put_size ⟨tmps, []⟩ _ _) rfl rfl rfl (.items hitems)))
          rw [← hact]
          have hs := step_op_skip (P := P) (b := bf c.fn) (a := ⟨tmps, []⟩) (k := k') (cs := cs) (w := w) (ops := all) (i := i) (rest := List.range' (i + 1) (all.size - (i + 1))) (by simp [hio, hw])
          simp only [hio, Option.bind_some] at hs
          exact .one hs
        split at hG
        · rename_i hg
          exact perform_good hE hS hio hrest hdst (.inl hg) hk (GYes.wanted hS.fr (.inl hg)) hG
        · rename_i j want hg
          unfold stepGuard at hG
          split at hG
          · exact hG.elim
          · rename_i d hdd
            split at hG
            · rename_i t ht
              cases hb : (match want with | true => t | false => !t) with
              | true =>
                have htw : t = want := by cases want <;> cases t <;> simp_all
                subst htw
                have hgood := hG.1 hb
                have hsound := hgood.on rfl
                have hy : GYes all o (c.fr.put (some d) (.bool t)) := .inr ⟨j, t, d, hg, hdd, get_put_self _ _ _⟩
                exact Ends.next (c1 := { c with todo := .on all o rest :: k, fr := c.fr.put (some d) (.bool t) }) (fun cs => .refl _ _) (.refl _ _) (.refl _ _) rfl rfl (hsound _ _ _ _ (hS.world hS.inv (hS.fr.known ht) rfl rfl rfl rfl (.on rfl hio hrest hdst hy hk)))
              | false =>
                have htw : t = !want := by cases want <;> cases t <;> simp_all
                subst htw
                exact skip (hS.fr.known ht) ⟨j, want, d, hg, hdd, .inl ht⟩ (hG.2 hb)
            · rename_i ht
              exact skip hS.fr ⟨j, want, d, hg, hdd, .inr ht⟩ hG
            · exact hG.elim

/-- What a step leads to makes the step good. -/
theorem step_good (hE : EnvOk P E) {c : Cfg T} {v : V T} {st' : List (Ob T)} (hG : NxGood P E v st' (step E c)) : Good P E c v st' := by
  unfold Good
  unfold step at hG
  cases hc : c.todo with
  | nil => rw [hc] at hG; exact hG.elim
  | cons x k =>
    rw [hc] at hG
    cases x with
    | code a => exact code_good hE hc hG
    | reg id ops draw =>
      intro g w tmps todo hS
      have htop := hS.top
      cases htop with
      | on hc' => rw [hc] at hc'; cases hc'
      | items hi =>
        rw [hc] at hi
        cases hi with
        | reg hk => exact region_good hE hS hk hG
    | inBlock id =>
      intro g w tmps todo hS
      have htop := hS.top
      cases htop with
      | on hc' => rw [hc] at hc'; cases hc'
      | items hi =>
        rw [hc] at hi
        cases hi with
        | inBlock hk => exact quiet (c1 := { c with todo := k }) hS hG (fun cs => .one step_inBlock) rfl rfl rfl rfl rfl rfl hk
    | inLoop body slots =>
      intro g w tmps todo hS
      have htop := hS.top
      cases htop with
      | on hc' => rw [hc] at hc'; cases hc'
      | items hi =>
        rw [hc] at hi
        cases hi with
        | inLoop hk =>
          have hk2 := ItemsOk.code (c := body) (ItemsOk.inLoop (body := body) (slots := slots) hk)
          cases slots with
          | none => exact quiet (c1 := { c with todo := .code body :: .inLoop body none :: k }) hS hG (fun cs => .one step_inLoop) rfl rfl rfl rfl rfl rfl hk2
          | some slots =>
            have pr : Good P E { c with todo := .code body :: .inLoop body (some slots) :: k, fr := prune c.fr slots } v st' → Ends P E c g w tmps _ v st' := fun h =>
              onward hS h (fun cs => .one step_inLoop) hS.inv (prune_ok hS.fr slots) (.refl _ _) (.refl _ _) rfl rfl rfl rfl hk2
            simp only [stepItem, stepLoop] at hG
            split at hG
            · exact pr hG
            · split at hG
              · rename_i ids vs obs hp
                obtain ⟨g3, k1, k2, k3, k4⟩ := pack_fr hS.inv hS.fr (.refl hS.inv) (lives_reps hS.fr slots).1 hp
                exact onward (c1 := { c with todo := .code body :: .inLoop body (some slots) :: k, fr := frOf (lives c.fr slots) vs, st := obs }) hS hG (fun cs => .one step_inLoop) k1 k4 k2 k3 rfl rfl rfl rfl hk2
              · exact pr hG
    | ops all rest => exact ops_good hE hc hG
    | on all o rest =>
      intro g w tmps todo hS
      have htop := hS.top
      cases htop with
      | items hi => rw [hc] at hi; cases hi
      | on hc' ho hd hdst hg hk =>
        rw [hc] at hc'
        cases hc'
        exact perform_good hE hS ho hd hdst hg hk (GYes.wanted hS.fr hg) hG
    | dops all rest i base foot => exact dops_good hG
    | don all o rest i base foot =>
      intro hy hdst
      simp only [stepItem, stepDon] at hG
      split at hG
      · exact hG.elim
      · rename_i a ha
        exact performD_good ha hy hdst hG
    | rounds => trivial

theorem entry_spec {f : Nat} {args : List (V T)} {obs : List (Ob T)} {e : Cfg T} (h : entry E f args obs = some e) : ∃ fn b, E.fns f = some fn ∧ fn.body = some b ∧ e = { todo := [.code b, .code .ret], fr := argSlots 0 args, st := obs, fn := f, keep := obs.length, n := fn.ntmps, res := fn.results.toList } := by
  unfold entry at h
  split at h
  · rename_i fn hfn
    split at h
    · rename_i b hb
      simp only [Option.some.injEq] at h
      exact ⟨fn, b, hfn, hb, h.symm⟩
    · cases h
  · cases h
theorem argSlots_get : ∀ {args : List (V T)} {i t : Nat} {v : V T}, Fr.get (argSlots i args) t = some v → i ≤ t ∧ args[t - i]? = some v
  | [], _, _, _, h => by simp [argSlots, Fr.get] at h
  | u :: args, i, t, v, h => by
    simp only [argSlots, Fr.get] at h
    split at h
    · rename_i hb
      have := Nat.eq_of_beq_eq_true hb
      subst this
      exact ⟨Nat.le_refl _, by simpa using h⟩
    · obtain ⟨h1, h2⟩ := argSlots_get h
      refine ⟨by omega, ?_⟩
      rw [show t - i = (t - (i + 1)) + 1 by omega, List.getElem?_cons_succ]
      exact h2
/-- A function whose body is run does what the run says. -/
theorem callee_of (hE : EnvOk P E) {f : Nat} {args : List (V T)} {obs obs' : List (Ob T)} {e : Cfg T} {r : V T} (he : entry E f args obs = some e) (hG : Good P E e r obs') : Callee P E f args obs r obs' := by
  obtain ⟨fn, b, hfn, hb, rfl⟩ := entry_spec he
  obtain ⟨hpf, hname⟩ := hE.fns f fn hfn
  have hitems : ItemsOk ([.code b, .code .ret] : List (Item T)) [.code b] := .code .bot
  refine ⟨⟨fn, hpf, by rw [hb]; rfl, hname⟩, fun g w xs hi hr cs => ?_⟩
  have hsim : Sim P E { todo := [.code b, .code .ret], fr := argSlots 0 args, st := obs, fn := f, keep := obs.length, n := fn.ntmps, res := fn.results.toList } g w ((⟨xs⟩ : Array Value) ++ Array.replicate (fn.ntmps - xs.length) undef) [.code b] := by
    refine ⟨hi, fun t v hv => ?_, ?_, .items hitems, fn, hpf, rfl⟩
    · obtain ⟨_, h1⟩ := argSlots_get hv
      rw [Nat.sub_zero] at h1
      obtain ⟨x, h2, h3⟩ := hr.get h1
      refine ⟨x, ?_, h3⟩
      have hlt := (List.getElem?_eq_some_iff.1 h2).1
      rw [Array.getElem?_append_left (by simpa using hlt)]
      simpa using h2
    · show fn.ntmps ≤ Array.size _
      simp
      omega
  obtain ⟨fr', w', g', x, h1, h2, h3, h4, h5, h6, h7⟩ := hG.sound ⟨_, hitems⟩ _ _ _ _ hsim cs
  refine ⟨.returned x, w', fr', ⟨x, g', rfl, ⟨h4, h5, fun i l hl => ?_⟩, h7⟩, ?_, h2, h3⟩
  · refine h6 i l ?_ hl
    show i < obs.length
    rw [← hi.len]
    exact (List.getElem?_eq_some_iff.1 hl).1
  · have : Frame.enter P f ⟨xs⟩ .normal = (bf f).at ⟨(⟨xs⟩ : Array Value) ++ Array.replicate (fn.ntmps - xs.length) undef, []⟩ [.code b] := by
      simp [Frame.enter, Frame.at, hpf, hb, bf]
    rw [this]
    exact h1
theorem runs_good (hE : EnvOk P E) {X : Nat → List (V T) → List (Ob T) → V T → List (Ob T) → Prop} (hX : ∀ f args obs r obs', X f args obs r obs' → Callee P E f args obs r obs') {c : Cfg T} {v : V T} {st' : List (Ob T)} (h : Runs E X c v st') : Good P E c v st' := by
  induction h with
  | go h k ih => exact step_good hE (by rw [h]; exact ih)
  | need h k ih => exact step_good hE (by rw [h]; exact ⟨rfl, ih⟩)
  | br h kt kf iht ihf => exact step_good hE (by rw [h]; exact ⟨iht, ihf⟩)
  | fork h kd kc ihd ihc => exact step_good hE (by rw [h]; exact ⟨ihd, ihc⟩)
  | ext h hx hk ih => exact step_good hE (by rw [h]; exact ⟨_, _, hX _ _ _ _ _ hx, ih⟩)
  | enter h he hr hk ihr ih => exact step_good hE (by rw [h]; exact ⟨_, _, callee_of hE he ihr, ih⟩)
  | ret h => exact step_good hE (by rw [h]; exact ⟨rfl, rfl⟩)
  | cut h k ih => exact step_good hE (by rw [h]; exact ih)
/-- The one theorem: a run that the interpreter has is a call that the program makes. -/
theorem runs_callee (hE : EnvOk P E) {X : Nat → List (V T) → List (Ob T) → V T → List (Ob T) → Prop} (hX : ∀ f args obs r obs', X f args obs r obs' → Callee P E f args obs r obs') {f : Nat} {args : List (V T)} {obs obs' : List (Ob T)} {e : Cfg T} {r : V T}
    (he : entry E f args obs = some e) (h : Runs E X e r obs') : Callee P E f args obs r obs' := callee_of hE he (runs_good hE hX h)
end Go.Proofs.Ytpgghakjbghagaa.AI
