/- The abstract interpreter is right: loops over what slices.Backward returns. -/
import Derived.Test.YtnenfgpjedddoaaGreatAIWalk2
set_option linter.unusedVariables false
set_option linter.unusedSectionVars false
set_option linter.unusedSimpArgs false
namespace Go.Proofs.YtnenfgpjedddoaaGreat.AI
open Go

variable {K : Type} [DecidableEq K] {T : K → Type} {E : Env T} {P : Program}
section
variable {c : Cfg T} {v : V T} {st' : List (Ob T)} {Z : Zone T} {g : Gh} {w : World} {tmps : Array Value} {todo : List Go.Item} {r : Rnd T} {i : Nat} {k : List (Item T)}

/-- Objects that go, or are named anew, under a loop. -/
theorem LoopOk.anew {fn n : Nat} {g1 : Gh} {w1 w0 : World} {fr0 fr1 : Fr T} {s : LoopState} {l : Nat} {rs : List Nat} {tmps0 : Array Value} {k' : List Go.Item} {r1 : Rnd T} (h : LoopOk P E fn n g w w0 r fr0 k s l rs tmps0 k') (he : Ext g g1 w w1) (hf : FrOk E g1 fr1 tmps0)
    (hp : r1.p = r.p) (hq : r1.q = r.q) (ha : r1.assign = r.assign) (hb : r1.body = r.body) : LoopOk P E fn n g1 w1 w0 r1 fr1 k s l rs tmps0 k' := by
  obtain ⟨d, hd⟩ := h.record
  obtain ⟨x, y⟩ := owns_new he hd h.own
  exact ⟨h.items, hf, h.size, h.marks.mono he, h.new, x, d, by rw [hp, hq, ha, hb]; exact y⟩
/-- The record turns. -/
theorem LoopOk.turn {fn n : Nat} {w0 : World} {fr0 : Fr T} {s : LoopState} {l : Nat} {rs : List Nat} {tmps0 : Array Value} {k' : List Go.Item} (h : LoopOk P E fn n g w w0 r fr0 k s l rs tmps0 k') (o : Obj) : l ∉ rs ∧ MarksOk g (w.putObj l o) w0 rs := by
  obtain ⟨d, hd⟩ := h.record
  have hn : l ∉ rs := fun hm => by
    have := (h.marks.each l hm).2.2
    rw [hd] at this
    cases this
  exact ⟨hn, h.marks.putObj hn⟩
theorem normW_ok {c1 : Cfg T} {cap cap1 : V T} {xc : Value} {live : List Nat} (hi : Inv E g c.st w) (hf : FrOk E g c.fr tmps) (hc : Rep E g cap xc) (h : c.normW cap live = some (c1, cap1)) :
    ∃ g1, Inv E g1 c1.st w ∧ FrOk E g1 c1.fr tmps ∧ Rep E g1 cap1 xc ∧ Ext g g1 w w ∧ KinTo c.keep g g1 ∧ c1.n = c.n ∧ c1.fn = c.fn ∧ c1.res = c.res ∧ c1.keep = c.keep := by
  unfold Cfg.normW at h
  dsimp only at h
  obtain ⟨g1, h1⟩ := growSt_ok (E := E) c.st.length 0 hi
  obtain ⟨l1, l2⟩ := lives_reps hf live
  obtain ⟨g2, h2, h3⟩ := grows_ok (cap :: seconds (lives c.fr live)) h1.inv (.cons (hc.mono h1.le) (l1.mono h1.le))
  split at h
  · rename_i ids cap' vs' obs hp
    simp only [Option.some.injEq, Prod.mk.injEq] at h
    obtain ⟨rfl, rfl⟩ := h
    have hto := h1.trans h2
    obtain ⟨g', _, k2, k3, k4, _, k5, _, _, k6, _⟩ := pack_ok hto.inv hp h3
    cases k4 with
    | cons a b =>
      exact ⟨g', k3, frOf_ok b l2, a, hto.ext.trans k6, (hto.le.kin _).trans (pack_kin (M' := g'.M) k2 k5), rfl, rfl, rfl, rfl⟩
  · cases h

/-- Into the loop. -/
theorem range_good (hE : EnvOk P E) {k' : List Go.Item} {f : Operand} {params : Array Tmp} {assign body : Code} (hS : Sim P E Z c g w tmps (.code (.rangeFunc f params assign body) :: k')) (hk : ItemsOk Z.kind k k') (hG : NxGood P E v st' (stepRange E c k f params assign body)) :
    Ends P E (Z.at tmps (.code (.rangeFunc f params assign body) :: k') w) c.fn c.keep Z.g0 Z.w0 v st' := by
  unfold stepRange at hG
  split at hG
  case h_2 => exact hG.elim
  rename_i G cap hz hf
  split at hG
  case h_2 => exact hG.elim
  rename_i e he
  split at hG
  case h_2 => exact hG.elim
  rename_i xs p q hl hpq
  obtain ⟨hsm, hG⟩ := hG
  rw [decide_eq_true_eq] at hsm
  have hZ := hk.top hz
  have hpars : params = #[p, q] := Array.ext' hpq
  subst hpars
  obtain ⟨B⟩ := back_spec hE he
  have hzo := hS.zone
  unfold Zone.Ok at hzo
  rw [hZ] at hzo
  obtain ⟨rs, z1, z2, z3, z4⟩ := hzo
  obtain ⟨as, cs0, r1, r2, r3⟩ := (evalO_ok (a := ⟨tmps, marks rs⟩) hS.fr hf).fn_inv
  cases r1
  cases r2 with
  | @cons _ xc _ _ hxc hnil =>
  cases hnil
  obtain ⟨a1, a2⟩ := hS.inv.alloc (.deferred (some []))
  obtain ⟨b1, b2⟩ := a1.alloc (.loop { state := .ready, pending := none, fn := c.fn, tmps, params := #[p, q], assign, body, defers := w.heap.size })
  obtain ⟨W1, hW1⟩ : ∃ W1, (w.alloc (.deferred (some []))).alloc (.loop { state := .ready, pending := none, fn := c.fn, tmps, params := #[p, q], assign, body, defers := w.heap.size }) = W1 := ⟨_, rfl⟩
  have hent := run_enterLoop_outer (P := P) (w := w) c.fn tmps #[p, q] assign body
  rw [hW1] at b1 b2 hent
  have hWs : W1.heap.size = w.heap.size + 2 := by rw [← hW1]; simp
  have hL1 : W1.heap[w.heap.size + 1]? = some (.loop { state := .ready, pending := none, fn := c.fn, tmps, params := #[p, q], assign, body, defers := w.heap.size }) := by
    rw [← hW1]
    have := World.alloc_heap_new (w.alloc (.deferred (some []))) (.loop { state := .ready, pending := none, fn := c.fn, tmps, params := #[p, q], assign, body, defers := w.heap.size })
    rwa [World.size_alloc] at this
  have hK1 : W1.heap[w.heap.size]? = some (.deferred (some [])) := by
    rw [← hW1]; exact (RowKit.Below.heap_alloc _ _ _ (by simp)).trans (World.alloc_heap_new w _)
  have hown : ∀ b, w.heap.size ≤ b → ¬ g.owns b := fun b hb ⟨j, lj, h1, h2⟩ => by
    have := hS.inv.lt h1 h2
    omega
  have hx1 : Ext g g w W1 := a2.trans b2
  have hm1 : MarksOk g W1 Z.w0 (w.heap.size :: rs) := by
    have hm := z4.mono hx1
    refine ⟨List.nodup_cons.2 ⟨fun hmem => ?_, z4.nodup⟩, fun r' hr' => ?_⟩
    · have := heap_lt (z4.each _ hmem).2.2
      omega
    · rcases List.mem_cons.1 hr' with rfl | hr'
      · exact ⟨hS.ext.size, hown _ (Nat.le_refl _), hK1⟩
      · exact hm.each r' hr'
  have hcf : ∀ args : Array Value, (callFunc G args).run P W1 = .ok (.enter G args) W1 := fun args => by
    have hb : B.fn.body ≠ none := by rw [B.body]; simp
    simp [callFunc, B.hfn, B.body, B.name]
  intro cs
  have hstep : Go.step P (Z.at tmps (.code (.rangeFunc f #[p, q] assign body) :: k') w cs) = .next (lone (Frame.enter P G #[.func (.yield (w.heap.size + 1)) #[] #[], xc] .normal) (FF c.fn (w.heap.size :: rs) tmps (w.heap.size + 1) k' :: cs) W1) := by
    unfold Zone.at
    rw [z1, z2, z3]
    have heval : (⟨tmps, marks rs⟩ : Act).eval f = .func (.func G) #[] #[xc] := r3
    exact stepR_rangeFunc (P := P) (b := bf c.fn) (a := ⟨tmps, marks rs⟩) (k := k') (cs := cs) (w := w) (w₁ := W1) (w₁' := W1) (w₂ := W1) (d := { target := .fn (.func G) #[xc], args := #[.func (.yield (w.heap.size + 1)) #[] #[]] }) (f := G) (args := #[.func (.yield (w.heap.size + 1)) #[] #[], xc])
      hent (by simp only [resolve, heval]; simp [go_sem]) (by simp [invoke, go_sem, hcf])
  obtain ⟨g2, w2, t2, q2, to2, s2, y2, f2⟩ := walk_start (y := .func (.yield (w.heap.size + 1)) #[] #[]) (cs := FF c.fn (w.heap.size :: rs) tmps (w.heap.size + 1) k' :: cs) hE B b1 hl hsm hxc
  have hlo : LoopOk P E c.fn c.n g W1 Z.w0 ⟨e, cap, p, q, assign, body⟩ c.fr k .ready (w.heap.size + 1) (w.heap.size :: rs) tmps k' :=
    ⟨by rw [hZ] at hk; exact hk, hS.fr, hS.size, hm1, Nat.le_succ_of_le hS.ext.size, hown _ (by omega), _, hL1⟩
  have hH : HSim P E { c with todo := .rounds ⟨e, cap, p, q, assign, body⟩ xs.length :: k } ⟨e, cap, p, q, assign, body⟩ xs.length k g2 w2 Z.g0 Z.w0 (fun cs => lone (FH B t2) (FF c.fn (w.heap.size :: rs) tmps (w.heap.size + 1) k' :: cs) w2) :=
    ⟨to2.inv, hS.fnOk, (hS.ext.trans hx1).trans to2.ext, hS.kin.trans (to2.le.kin _), _, _, _, _, _, _, B, rfl, hlo.mono to2.ext to2.le, ⟨s2, y2, f2, hsm⟩⟩
  obtain ⟨fr', w', g', x, h1, h2⟩ := hG _ _ _ _ _ hH cs
  exact ⟨fr', w', g', x, .head hstep (q2.trans h1), h2⟩

/-- At the head: objects may be named anew. -/
theorem rounds_good (hG : NxGood P E v st' (stepRounds E c k r i)) : HSound P E c r i k v st' := by
  intro g w g0 w0 m hH
  obtain ⟨l, rs, tmps0, k', G, tG, B, rfl, hl, hg⟩ := hH.loop
  unfold stepRounds at hG
  split at hG
  case h_2 => exact hG.elim
  split at hG
  · split at hG
    · rename_i c1 cap1 hn
      obtain ⟨xc, hx1, hx2⟩ := hg.fr 1 r.cap rfl
      obtain ⟨g1, n1, n2, n3, n4, n5, n6, n7, n8, n9⟩ := normW_ok hH.inv hl.fr hx2 hn
      have hle : FrOk E g1 [(1, some cap1), (3, some (.int .i64 ((i : Int) - 1)))] tG := fun t u ht => by
        simp only [Fr.get] at ht
        split at ht
        · rename_i hb
          have := Nat.eq_of_beq_eq_true hb
          subst this
          cases ht
          exact ⟨xc, hx1, n3⟩
        · split at ht
          · rename_i hb
            have := Nat.eq_of_beq_eq_true hb
            subst this
            cases ht
            obtain ⟨y, h1, h2⟩ := hg.fr 3 _ rfl
            rw [h2.int_inv] at h1
            exact ⟨_, h1, .fc (.int _ _)⟩
          · cases ht
      have hl1 : LoopOk P E c1.fn c1.n g1 w w0 ⟨r.e, cap1, r.p, r.q, r.assign, r.body⟩ c1.fr k .ready l rs tmps0 k' := by
        rw [n6, n7]
        exact hl.anew n4 n2 rfl rfl rfl rfl
      have := hG g1 w g0 w0 (fun cs => lone (FH (E := E) (e := r.e) B tG) (FF c1.fn rs tmps0 l k' :: cs) w) ⟨n1, by dsimp only; rw [n7, n8]; exact hH.fnOk, hH.ext.trans n4, by dsimp only; rw [n9]; exact hH.kin.trans n5, l, rs, tmps0, k', G, tG, B, rfl, hl1, ⟨hg.size, hg.yld, hle, hg.small⟩⟩
      dsimp only at this
      rw [n7, n9] at this
      exact this
    · exact hG.elim
  · exact hG g w g0 w0 _ ⟨hH.inv, hH.fnOk, hH.ext, hH.kin, l, rs, tmps0, k', G, tG, B, rfl, hl, hg⟩

/-- Behind the loop, in the function's own frame. -/
theorem Ends.behind {g0 : Gh} {w0 : World} {l : Nat} {rs : List Nat} {tmps0 : Array Value} {k' : List Go.Item} {c2 : Cfg T} {jump : Option Code} {d : Nat} (hi : Inv E g c2.st w)
    (hf : FrOk E g c2.fr tmps0) (hsz : c2.n ≤ tmps0.size) (hm : MarksOk g w w0 rs) (hnew : w0.heap.size ≤ l) (hown : ¬ g.owns l) {s : LoopState} (hs : s ≠ .busy)
    (hrec : w.heap[l]? = some (.loop { state := s, pending := jump, fn := c2.fn, tmps := tmps0, params := #[r.p, r.q], assign := r.assign, body := r.body, defers := d })) (hfn : ∃ fn, P.funcs[c2.fn]? = some fn ∧ c2.res = fn.results.toList) (hext : Ext g0 g w0 w) (hkin : KinTo c2.keep g0 g)
    (htodo : ItemsOk .top c2.todo ((jump.map Go.Item.code).toList ++ k')) (hG : Sound P E c2 v st') :
    Ends P E (fun cs => lone ((FF c2.fn rs tmps0 l k').finish (.tuple #[])) cs w) c2.fn c2.keep g0 w0 v st' := by
  have hend := run_endLoop (P := P) hrec hs
  have hnm : l ∉ rs := fun hmem => by
    have := (hm.each l hmem).2.2
    rw [hrec] at this
    cases this
  have hsim : Sim P E ⟨bf c2.fn, marks rs, [], .top, g0, w0⟩ c2 g (w.putObj l (.loop { state := .exhausted, pending := jump, fn := c2.fn, tmps := tmps0, params := #[r.p, r.q], assign := r.assign, body := r.body, defers := d })) tmps0 ((jump.map Go.Item.code).toList ++ k') :=
    ⟨hi.putObj hown hrec (fun _ _ _ h => by cases h), hf, hsz, .items htodo, hfn, ⟨rs, rfl, rfl, rfl, hm.putObj hnm⟩, hext.putObj _ hnew, hkin⟩
  refine Ends.next (fun cs => ?_) rfl rfl (hG _ _ _ _ _ hsim)
  have hfin := finish_atR_inRangeFunc (b := bf c2.fn) (a := ⟨tmps0, marks rs⟩) (k := k') l (.tuple #[])
  show Steps P (lone (((bf c2.fn).atR ⟨tmps0, marks rs⟩ (.inRangeFunc l :: k')).finish (.tuple #[])) cs w) _
  rw [hfin]
  exact .one (stepR_endRangeFunc hend)

/-- Another round, or on. -/
theorem head_good (hE : EnvOk P E) (hG : NxGood P E v st' (stepHead c k r i)) : HSound P E c r i k v st' := by
  intro g w g0 w0 m hH
  obtain ⟨l, rs, tmps0, k', G, tG, B, rfl, hl, hg⟩ := hH.loop
  by_cases hi : 0 < i
  · exact hG.1 (by simpa using hi) hi g w g0 w0 _ ⟨hH.inv, hH.fnOk, hH.ext, hH.kin, l, rs, tmps0, k', G, tG, B, rfl, hl, hg⟩
  · have hgood := hG.2 (by simpa using hi)
    have hs : GSt P E [0] (.func (.yield l) #[] #[]) c.st g w g w tG [(1, some r.cap), (3, some (.int .i64 ((i : Int) - 1)))] := ⟨.refl hH.inv, hg.fr, hg.size, fun t ht => by
      simp only [List.mem_cons, List.not_mem_nil, or_false] at ht
      subst ht
      exact hg.yld⟩
    intro cs
    obtain ⟨g1, w1, q1, to1⟩ := walk_over (cs := cs) hE B hs (x := (i : Int) - 1) rfl (by omega) (FF c.fn rs tmps0 l k')
    have hl1 := hl.mono to1.ext to1.le
    obtain ⟨d, hd⟩ := hl1.record
    obtain ⟨fr', w', g', x, h1, h2⟩ := Ends.behind (r := r) (c2 := { c with todo := k }) (jump := none) (s := .ready) to1.inv hl1.fr hl1.size hl1.marks hl1.new hl1.own (by simp) hd hH.fnOk (hH.ext.trans to1.ext) (hH.kin.trans (to1.le.kin _)) hl1.items
      (hgood.sound ⟨_, _, hl1.items⟩) cs
    exact ⟨fr', w', g', x, q1.trans h1, h2⟩

/-- Into a round. -/
theorem rin_good (hE : EnvOk P E) (hi : 0 < i) (hG : NxGood P E v st' (stepRin E c k r i)) : HSound P E c r i k v st' := by
  intro g w g0 w0 m hH
  obtain ⟨l, rs, tmps0, k', G, tG, B, rfl, hl, hg⟩ := hH.loop
  unfold stepRin at hG
  split at hG
  case h_2 => exact hG.elim
  rename_i xs hxs
  split at hG
  case h_2 => exact hG.elim
  rename_i u hu
  obtain ⟨hb, hG⟩ := hG
  simp only [Bool.and_eq_true] at hb
  obtain ⟨hle, hp, hq⟩ := hb
  have hle := Nat.le_of_ble_eq_true hle
  have hp : r.p < c.n := Nat.le_of_ble_eq_true hp
  have hq : r.q < c.n := Nat.le_of_ble_eq_true hq
  have hs : GSt P E [0] (.func (.yield l) #[] #[]) c.st g w g w tG [(1, some r.cap), (3, some (.int .i64 ((i : Int) - 1)))] := ⟨.refl hH.inv, hg.fr, hg.size, fun t ht => by
    simp only [List.mem_cons, List.not_mem_nil, or_false] at ht
    subst ht
    exact hg.yld⟩
  intro cs
  obtain ⟨g1, w1, t1, fr1, q1, s1, f1, f3, f12, f16⟩ := walk_in (cs := FF c.fn rs tmps0 l k' :: cs) hE B hs rfl hi hxs hle hu
  have hl1 := hl.mono s1.to.ext s1.to.le
  obtain ⟨d, hd⟩ := hl1.record
  obtain ⟨y12, a1, a2⟩ := s1.fr 12 _ f12
  obtain ⟨y16, b1, b2⟩ := s1.fr 16 _ f16
  have hstep := walk_yield (P := P) (cs := FF c.fn rs tmps0 l k' :: cs) B hd rfl (s1.yld 11 (by simp)) a1 b1
  obtain ⟨tm, htm⟩ : ∃ tm, (tmps0.setIfInBounds r.p y12).setIfInBounds r.q y16 = tm := ⟨_, rfl⟩
  have hfold : ((#[r.p, r.q] : Array Nat).zip #[y12, y16]).foldl (fun tmps (t, a) => tmps.setIfInBounds t a) tmps0 = tm := by rw [← htm]; simp
  dsimp only at hstep
  rw [hfold] at hstep
  have hn := hl1.size
  have hfr : FrOk E g1 ((r.q, some u) :: (r.p, some (.int .i64 ((i - 1 : Nat) : Int))) :: c.fr) tm := by
    have h12 : Rep E g1 (.int .i64 ((i - 1 : Nat) : Int)) y12 := by
      rw [show ((i - 1 : Nat) : Int) = (i : Int) - 1 by omega]; exact a2
    have e1 := FrOk.putO (n := c.n) (a := ⟨tmps0, []⟩) (d := some r.p) (v := some (.int .i64 ((i - 1 : Nat) : Int))) (x := y12) hl1.fr h12 (Nat.ble_eq_true_of_le hp) hn
    have e2 := FrOk.putO (n := c.n) (a := ⟨tmps0.setIfInBounds r.p y12, []⟩) (d := some r.q) (v := some u) (x := y16) e1 b2 (Nat.ble_eq_true_of_le hq) (by simpa using hn)
    rw [← htm]
    exact e2
  have hitems : ItemsOk (.pre r c.fr i k) (.code r.assign :: .begin :: .code r.body :: .rend r c.fr i :: k) [.code r.assign, .beginRound, .code r.body] := .code .pre
  have hsim : Sim P E ⟨{ bf c.fn with roundOf := some l }, [], [FG B t1, FF c.fn rs tmps0 l k'], .pre r c.fr i k, g0, w0⟩ { c with todo := .code r.assign :: .begin :: .code r.body :: .rend r c.fr i :: k, fr := (r.q, some u) :: (r.p, some (.int .i64 ((i - 1 : Nat) : Int))) :: c.fr } g1 w1 tm [.code r.assign, .beginRound, .code r.body] :=
    ⟨s1.to.inv, hfr, by show c.n ≤ _; rw [← htm]; simpa using hn, .items hitems, hH.fnOk, ⟨l, rs, tmps0, k', G, t1, B, rfl, rfl, rfl, hl1, ⟨s1.size, s1.yld 0 (by simp), fr13 s1.fr f1 f3, hg.small⟩, hi⟩, hH.ext.trans s1.to.ext, hH.kin.trans (s1.to.le.kin _)⟩
  obtain ⟨fr', w', g', x, h1, h2⟩ := hG.sound ⟨_, _, hitems⟩ _ _ _ _ _ hsim cs
  exact ⟨fr', w', g', x, q1.trans (.head hstep h1), h2⟩

/-- The round begins. -/
theorem begin_good (hc : c.todo = .begin :: k) (hG : Good P E { c with todo := k } v st') : Sound P E c v st' := by
  intro Z g w tmps todo hS
  have htop := hS.top
  cases htop with
  | on hc' => rw [hc] at hc'; cases hc'
  | items hi =>
    rw [hc] at hi
    generalize hz : Z.kind = z at hi
    cases hi with
    | @pre r fr0 i kk =>
      have hzo := hS.zone
      unfold Zone.Ok at hzo
      rw [hz] at hzo
      obtain ⟨l, rs, tmps0, k', G, tG, B, z1, z2, z3, hl, hg, hi0⟩ := hzo
      obtain ⟨d, hd⟩ := hl.record
      have hbr := run_beginRound (P := P) hd rfl
      obtain ⟨hn, hm⟩ := hl.turn (.loop { state := .busy, pending := none, fn := c.fn, tmps := tmps0, params := #[r.p, r.q], assign := r.assign, body := r.body, defers := d })
      have hlt := heap_lt hd
      have hitems : ItemsOk (.rnd r fr0 i kk) (.code r.body :: .rend r fr0 i :: kk) [.code r.body] := .code .rnd
      have hsim : Sim P E { Z with kind := .rnd r fr0 i kk } { c with todo := .code r.body :: .rend r fr0 i :: kk } g (w.putObj l (.loop { state := .busy, pending := none, fn := c.fn, tmps := tmps0, params := #[r.p, r.q], assign := r.assign, body := r.body, defers := d })) tmps [.code r.body] :=
        ⟨hS.inv.putObj hl.own hd (fun _ _ _ h => by cases h), hS.fr, hS.size, .items hitems, hS.fnOk, ⟨l, rs, tmps0, k', G, tG, B, z1, z2, z3, ⟨hl.items, hl.fr, hl.size, hm, hl.new, hl.own, d, World.putObj_heap_same hlt⟩, hg, hi0⟩, hS.ext.putObj _ hl.new, hS.kin⟩
      have he := hG.sound ⟨_, _, hitems⟩ { Z with kind := .rnd r fr0 i kk } _ _ _ _ hsim
      exact Ends.next (g0 := Z.g0) (w0 := Z.w0) (fun cs => .one (stepR_beginRound (by rw [z1]) hbr)) rfl rfl he

/-- The round ends as rounds end. -/
theorem rend_good (hE : EnvOk P E) {fr0 : Fr T} (hc : c.todo = .rend r fr0 i :: k) (hG : Good P E { c with todo := .rounds r (i - 1) :: k, fr := fr0 } v st') : Sound P E c v st' := by
  intro Z g w tmps todo hS
  have htop := hS.top
  cases htop with
  | on hc' => rw [hc] at hc'; cases hc'
  | items hi =>
    rw [hc] at hi
    generalize hz : Z.kind = z at hi
    cases hi with
    | rnd =>
      have hzo := hS.zone
      unfold Zone.Ok at hzo
      rw [hz] at hzo
      obtain ⟨l, rs, tmps0, k', G, tG, B, z1, z2, z3, hl, hg, hi0⟩ := hzo
      obtain ⟨d, hd⟩ := hl.record
      have her := run_endRound (P := P) none hd
      obtain ⟨hn, hm⟩ := hl.turn (.loop { state := .ready, pending := none, fn := c.fn, tmps := tmps0, params := #[r.p, r.q], assign := r.assign, body := r.body, defers := d })
      have hlt := heap_lt hd
      have hinv := hS.inv.putObj (o' := .loop { state := .ready, pending := none, fn := c.fn, tmps := tmps0, params := #[r.p, r.q], assign := r.assign, body := r.body, defers := d }) hl.own hd (fun _ _ _ h => by cases h)
      have hext := hS.ext.putObj (.loop { state := .ready, pending := none, fn := c.fn, tmps := tmps0, params := #[r.p, r.q], assign := r.assign, body := r.body, defers := d }) hl.new
      have hl1 : LoopOk P E c.fn c.n g (w.putObj l (.loop { state := .ready, pending := none, fn := c.fn, tmps := tmps0, params := #[r.p, r.q], assign := r.assign, body := r.body, defers := d })) Z.w0 r fr0 k .ready l rs tmps0 k' :=
        ⟨hl.items, hl.fr, hl.size, hm, hl.new, hl.own, d, World.putObj_heap_same hlt⟩
      intro cs
      have hsmall := hg.small
      obtain ⟨g1, w1, t1, q1, to1, k1, k2, k3⟩ := walk_next (cs := FF c.fn rs tmps0 l k' :: cs) hE B hinv hg.size hg.yld hg.fr (by omega) (by omega)
      have hH : HSim P E { c with todo := .rounds r (i - 1) :: k, fr := fr0 } r (i - 1) k g1 w1 Z.g0 Z.w0 (fun cs => lone (FH B t1) (FF c.fn rs tmps0 l k' :: cs) w1) :=
        ⟨to1.inv, hS.fnOk, hext.trans to1.ext, hS.kin.trans (to1.le.kin _), l, rs, tmps0, k', G, t1, B, rfl, hl1.mono to1.ext to1.le, ⟨k1, k2, by rw [show ((i - 1 : Nat) : Int) - 1 = (i : Int) - 1 - 1 by omega]; exact k3, by omega⟩⟩
      obtain ⟨fr', w', g', x, h1, h2⟩ := hG _ _ _ _ _ hH cs
      refine ⟨fr', w', g', x, .head ?_ (q1.trans h1), h2⟩
      unfold Zone.at
      rw [z3]
      exact stepR_round_end (by rw [z1]) (by rw [z1]; rfl) her

/-- The round is left by a jump. -/
theorem jump_good (hE : EnvOk P E) {r : Rnd T} {fr0 : Fr T} {i : Nat} {kF : List (Item T)} {jump : Code} (hz : Z.kind = .rnd r fr0 i kF) (hS : Sim P E Z c g w tmps todo) (hG : Good P E { c with todo := .code jump :: kF, fr := fr0 } v st')
    (hstep : ∀ (l : Nat) (v : Value) (w' : World) (f : Frame) (cs : List Frame), Z.b.roundOf = some l → Z.b.kind = .normal → (Instr.endRound l (some jump)).run P w = .ok v w' → Go.step P (lone (Z.b.atR ⟨tmps, Z.ds⟩ todo) (f :: cs) w) = .next (lone (f.finish v) cs w')) :
    Ends P E (Z.at tmps todo w) c.fn c.keep Z.g0 Z.w0 v st' := by
  have hzo := hS.zone
  unfold Zone.Ok at hzo
  rw [hz] at hzo
  obtain ⟨l, rs, tmps0, k', G, tG, B, z1, z2, z3, hl, hg, hi0⟩ := hzo
  obtain ⟨d, hd⟩ := hl.record
  have her := run_endRound (P := P) (some jump) hd
  obtain ⟨hn, hm⟩ := hl.turn (.loop { state := .done, pending := some jump, fn := c.fn, tmps := tmps0, params := #[r.p, r.q], assign := r.assign, body := r.body, defers := d })
  have hlt := heap_lt hd
  have hinv := hS.inv.putObj (o' := .loop { state := .done, pending := some jump, fn := c.fn, tmps := tmps0, params := #[r.p, r.q], assign := r.assign, body := r.body, defers := d }) hl.own hd (fun _ _ _ h => by cases h)
  have hext := hS.ext.putObj (.loop { state := .done, pending := some jump, fn := c.fn, tmps := tmps0, params := #[r.p, r.q], assign := r.assign, body := r.body, defers := d }) hl.new
  have hrec1 : (w.putObj l (.loop { state := .done, pending := some jump, fn := c.fn, tmps := tmps0, params := #[r.p, r.q], assign := r.assign, body := r.body, defers := d })).heap[l]? = some (.loop { state := .done, pending := some jump, fn := c.fn, tmps := tmps0, params := #[r.p, r.q], assign := r.assign, body := r.body, defers := d }) := World.putObj_heap_same hlt
  intro cs
  obtain ⟨g1, w1, q1, to1⟩ := walk_jump (cs := cs) hE B hinv hg.size hg.yld hg.fr (FF c.fn rs tmps0 l k')
  obtain ⟨hown, hrec2⟩ := owns_new to1.ext hrec1 hl.own
  have hitems : ItemsOk .top (.code jump :: kF) (((some jump).map Go.Item.code).toList ++ k') := .code hl.items
  obtain ⟨fr', w', g', x, h1, h2⟩ := Ends.behind (r := r) (c2 := { c with todo := .code jump :: kF, fr := fr0 }) (jump := some jump) (s := .done) to1.inv (hl.fr.mono to1.le) hl.size (hm.mono to1.ext) hl.new hown (by simp) hrec2 hS.fnOk (hext.trans to1.ext) (hS.kin.trans (to1.le.kin _)) hitems
    (hG.sound ⟨_, _, hitems⟩) cs
  refine ⟨fr', w', g', x, .head ?_ (q1.trans h1), h2⟩
  unfold Zone.at
  rw [z3]
  exact hstep l _ _ _ _ (by rw [z1]) (by rw [z1]; rfl) her
end
end Go.Proofs.YtnenfgpjedddoaaGreat.AI
