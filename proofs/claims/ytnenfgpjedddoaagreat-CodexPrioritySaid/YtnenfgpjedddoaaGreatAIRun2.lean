/- The abstract interpreter is right: each step. -/
import Derived.Test.YtnenfgpjedddoaaGreatAIRun
set_option linter.unusedVariables false
set_option linter.unusedSectionVars false
set_option linter.unusedSimpArgs false
namespace Go.Proofs.YtnenfgpjedddoaaGreat.AI
open Go

variable {K : Type} [DecidableEq K] {T : K → Type} {E : Env T} {P : Program}
section
variable {c : Cfg T} {v : V T} {st' : List (Ob T)}

theorem FrOk.known {g : Gh} {fr : Fr T} {tmps : Array Value} {d : Nat} {u : V T} (hf : FrOk E g fr tmps) (hd : Fr.get fr d = some u) : FrOk E g (fr.put (some d) u) tmps := fun t x h => by
  have := get_putO fr (some d) (some u) t
  simp only [AI.putO] at this
  rw [this] at h
  by_cases hdt : d = t
  · subst hdt
    simp only [if_true, Option.some.injEq, Option.getD_some] at h
    subst h
    exact hf _ _ hd
  · rw [if_neg (by simpa using hdt)] at h
    exact hf t x h
theorem get_put_self (fr : Fr T) (d : Nat) (u : V T) : Fr.get (fr.put (some d) u) d = some u := by
  have := get_putO fr (some d) (some u) d
  simpa [putO] using this
theorem ex_put {all : Array Oper} {n base i : Nat} {o : Oper} {F : Foot} {fr fr0 : Fr T} {st : List (Ob T)} {s' : Sx T} (hfe : FrEq fr fr0) (h : Ex P E all n base (fr, st) ⟨i, o, F⟩ s') : Ex P E all n base (fr0, st) ⟨i, o, F⟩ s' := by
  obtain ⟨v, rd, wr, h1, h2, h3, h4⟩ := h
  obtain ⟨t', k1, k2, k3, k4⟩ := h1.move (fr' := fr0) (t := st) (fun x _ => (hfe x).symm) rfl (fun _ _ => rfl)
  obtain ⟨f1, f2, f3⟩ := h1.frame
  have ht : t' = s'.2 := by
    apply List.ext_getElem?
    intro x
    by_cases hx : x ∈ wr
    · exact k2 x hx
    · rw [k3 x hx]; exact (f1 x hx).symm
  subst ht
  refine ⟨v, rd, wr, k1, h2, h3, fun t => ?_⟩
  rw [h4 t, get_putO, get_putO]
  dsimp only
  rw [hfe t]
theorem run_put {all : Array Oper} {n base : Nat} {fr fr0 : Fr T} {st : List (Ob T)} {L : List Lb} {s' : Sx T} (hfe : FrEq fr fr0) (h : Run P E all n base (fr, st) L s') : Run P E all n base (fr0, st) L s' := by
  cases h with
  | nil h1 h2 => exact .nil (fun t => (h1 t).trans (hfe t)) h2
  | cons h k => exact .cons (ex_put hfe h) k
theorem put_known {fr : Fr T} {d : Nat} {u : V T} (h : Fr.get fr d = some u) : FrEq (fr.put (some d) u) fr := fun t => by
  have := get_putO fr (some d) (some u) t
  simp only [putO] at this
  rw [this]
  by_cases hdt : d = t
  · subst hdt; simp [h]
  · rw [if_neg (by simpa using hdt)]

theorem dops_good {all : Array Oper} {rest : List Oper} {i base : Nat} {foot : List Foot} {k : List (Item T)} (h : NxGood P E v st' (stepDops E c k all rest i base foot)) : DGood P E c all rest i base foot k v st' := by
  cases rest with
  | nil =>
    simp only [stepDops] at h
    split at h
    · rename_i hr
      intro hk hd
      refine ⟨[], c.fr, c.st, .nil (fun _ => rfl) rfl, ?_, fun l hl => (by cases hl), by simpa using hr, Good.sound h ⟨.top, hk⟩⟩
      have : all.size ≤ i := by
        have := List.drop_eq_nil_iff.1 hd
        simpa using this
      rw [show all.size - i = 0 by omega]
      rfl
    · exact h.elim
  | cons o rest =>
    simp only [stepDops] at h
    split at h
    · exact h.elim
    rename_i hdst
    split at h
    · rename_i hg
      split at h
      · exact h.elim
      · rename_i a ha
        exact performD_good ha (.inl hg) hdst h
    · rename_i j want hg
      unfold stepGuardD at h
      split at h
      · exact h.elim
      · rename_i d hd
        split at h
        · rename_i t ht
          cases hb : (match want with | true => t | false => !t) with
          | true =>
            have htw : t = want := by cases want <;> cases t <;> simp_all
            subst htw
            have h1 := h.1 hb
            have h2 : DGood P E { c with todo := .don all o rest i base foot :: k, fr := c.fr.put (some d) (.bool t) } all (o :: rest) i base foot k v st' := h1 (.inr ⟨j, t, d, hg, hd, get_put_self _ _ _⟩) hdst
            intro hk hdr
            obtain ⟨L, fr1, st1, k1, k2⟩ := h2 hk hdr
            exact ⟨L, fr1, st1, run_put (put_known ht) k1, k2⟩
          | false =>
            have htw : t = !want := by cases want <;> cases t <;> simp_all
            subst htw
            refine DGood.cons (fr1 := (c.fr.put (some d) (.bool !want)).drop o.dst) (st1 := c.st) (rd := []) (wr := []) ⟨none, [], [], .inl ⟨⟨j, want, d, hg, hd, .inl ht⟩, rfl, rfl, rfl, rfl⟩, rfl, hdst, fun t => ?_⟩ (h.2 hb)
            have e1 := get_putO (c.fr.put (some d) (.bool !want)) o.dst none t
            have e2 := get_putO c.fr o.dst none t
            simp only [putO] at e1 e2 ⊢
            rw [e1, e2, put_known ht t]
        · rename_i ht
          exact DGood.cons (fr1 := c.fr.drop o.dst) (st1 := c.st) (rd := []) (wr := []) ⟨none, [], [], .inl ⟨⟨j, want, d, hg, hd, .inr ht⟩, rfl, rfl, rfl, rfl⟩, rfl, hdst, fun _ => rfl⟩ h
        · exact h.elim

/-! ### Operations in the order of the text -/
theorem Sim.to {Z : Zone T} {g : Gh} {w : World} {tmps : Array Value} {todo : List Go.Item} {c1 : Cfg T} {g1 : Gh} {w1 : World} {tmps1 : Array Value} {todo1 : List Go.Item} (h : Sim P E Z c g w tmps todo) (he : Ext g g1 w w1) (hl : g.Le g1) (hi : Inv E g1 c1.st w1) (hf : FrOk E g1 c1.fr tmps1) (hs : tmps1.size = tmps.size)
    (h3 : c1.n = c.n) (h4 : c1.fn = c.fn) (h5 : c1.res = c.res) (h6 : c1.keep = c.keep) (ht : Top Z.kind c1 todo1) : Sim P E Z c1 g1 w1 tmps1 todo1 :=
  ⟨hi, hf, by rw [h3, hs]; exact h.size, ht, by rw [h4, h5]; exact h.fnOk, by rw [h3, h4]; exact h.zone.mono he hl, h.ext.trans he, by rw [h6]; exact h.kin.trans (hl.kin _)⟩
/-- In the function's own frame, objects may also go, or be named anew. -/
theorem Sim.anew {Z : Zone T} {g : Gh} {w : World} {tmps : Array Value} {todo : List Go.Item} {c1 : Cfg T} {g1 : Gh} {w1 : World} {tmps1 : Array Value} {todo1 : List Go.Item} (hZ : Z.kind = .top) (h : Sim P E Z c g w tmps todo) (he : Ext g g1 w w1) (hk : KinTo c.keep g g1) (hi : Inv E g1 c1.st w1) (hf : FrOk E g1 c1.fr tmps1) (hs : tmps1.size = tmps.size)
    (h3 : c1.n = c.n) (h4 : c1.fn = c.fn) (h5 : c1.res = c.res) (h6 : c1.keep = c.keep) (ht : Top Z.kind c1 todo1) : Sim P E Z c1 g1 w1 tmps1 todo1 := by
  refine ⟨hi, hf, by rw [h3, hs]; exact h.size, ht, by rw [h4, h5]; exact h.fnOk, ?_, h.ext.trans he, by rw [h6]; exact h.kin.trans hk⟩
  have hz := h.zone
  unfold Zone.Ok at hz ⊢
  rw [hZ] at hz ⊢
  obtain ⟨rs, k1, k2, k3, k4⟩ := hz
  exact ⟨rs, by rw [h4]; exact k1, k2, k3, k4.mono he⟩
/-- An operation that is wanted. -/
theorem perform_good (hE : EnvOk P E) {all : Array Oper} {o : Oper} {rest : List Oper} {k : List (Item T)} {k' : List Go.Item} {i : Nat} {Z : Zone T} {g : Gh} {w : World} {tmps : Array Value} {todo : List Go.Item} (hS : Sim P E Z c g w tmps todo) (ho : all[i]? = some o) (hd : all.toList.drop (i + 1) = rest)
    (hdst : dstOk c.n o.dst = true) (hy : GYes all o c.fr) (hk : ItemsOk Z.kind k k') (hr : Region.wanted o (yielded all tmps) = true) (hg : NxGood P E v st' (perform E { c with todo := .ops all rest :: k } o)) :
    Ends P E (Z.at tmps (.inRegion all (i :: List.range' (i + 1) (all.size - (i + 1))) :: k') w) c.fn c.keep Z.g0 Z.w0 v st' := by
  have hitems : ItemsOk Z.kind (.ops all rest :: k) (.inRegion all (List.range' (i + 1) (all.size - (i + 1))) :: k') := .ops hd hk
  -- what is left to do once the operation has run
  have fin : ∀ {u : Option (V T)} {st1 : List (Ob T)}, (∀ c, o.op ≠ .defer c) → Good P E { c with todo := .ops all rest :: k, fr := putO c.fr o.dst u, st := st1 } v st' →
      (∀ (R : Act → World → Prop), (∀ g' w' x, To E g w g' st1 w' → RepO E g' u x → R ((⟨tmps, Z.ds⟩ : Act).put o.dst x) w') → o.wp P ⟨tmps, Z.ds⟩ w R (fun _ _ _ => False)) →
      Ends P E (Z.at tmps (.inRegion all (i :: List.range' (i + 1) (all.size - (i + 1))) :: k') w) c.fn c.keep Z.g0 Z.w0 v st' := fun {u st1} hnd hgood hwp => by
    have hsound := hgood.sound ⟨_, _, hitems⟩
    intro cs
    obtain ⟨a', w', ⟨g', x, ha, hto, hx⟩, hsteps⟩ := one_op (b := Z.b) (k := k') (rest := List.range' (i + 1) (all.size - (i + 1))) ho hr hnd
      (hwp (fun a' w' => ∃ g' x, a' = (⟨tmps, Z.ds⟩ : Act).put o.dst x ∧ To E g w g' st1 w' ∧ RepO E g' u x) fun g' w' x h1 h2 => ⟨g', x, rfl, h1, h2⟩) (Z.above ++ cs)
    subst ha
    have hfr : FrOk E g' (putO c.fr o.dst u) ((⟨tmps, Z.ds⟩ : Act).put o.dst x).tmps := FrOk.putO (a := ⟨tmps, Z.ds⟩) (hS.fr.mono hto.le) hx hdst hS.size
    have hsim : Sim P E Z { c with todo := .ops all rest :: k, fr := putO c.fr o.dst u, st := st1 } g' w' ((⟨tmps, Z.ds⟩ : Act).put o.dst x).tmps (.inRegion all (List.range' (i + 1) (all.size - (i + 1))) :: k') :=
      hS.to hto.ext hto.le hto.inv hfr (put_size ⟨tmps, Z.ds⟩ _ _) rfl rfl rfl rfl (.items hitems)
    obtain ⟨fr', w2, g2, y, h1, h2⟩ := hsound _ _ _ _ _ hsim cs
    have hact : (⟨tmps, Z.ds⟩ : Act).put o.dst x = ⟨((⟨tmps, Z.ds⟩ : Act).put o.dst x).tmps, Z.ds⟩ := by
      cases hdd : o.dst <;> rfl
    unfold Zone.at at h1
    rw [← hact] at h1
    exact ⟨fr', w2, g2, y, hsteps.trans h1, h2⟩
  unfold perform at hg
  split at hg
  · exact hg.elim
  rename_i a ha
  dsimp only at ha
  have res : ∀ {p : Nat} {rd wr : List Nat} {u : Option (V T)} {st1 : List (Ob T)}, Res P E p c.st a rd wr u st1 → Good P E { c with todo := .ops all rest :: k, fr := putO c.fr o.dst u, st := st1 } v st' →
      Ends P E (Z.at tmps (.inRegion all (i :: List.range' (i + 1) (all.size - (i + 1))) :: k') w) c.fn c.keep Z.g0 Z.w0 v st' := fun hres hgood => fin (opAct_nodefer ha) hgood fun R hR => hres.wp (a := ⟨tmps, Z.ds⟩) hE hS.inv hS.fr ha hR
  cases a with
  | val u => exact res (p := 0) (.val u) hg
  | need b u =>
    obtain ⟨rfl, hg⟩ := hg
    exact res (p := 0) (.need u) hg
  | rd x f =>
    simp only [performA, performRd] at hg
    split at hg
    · rename_i b u hu
      obtain ⟨rfl, hg⟩ := hg
      exact res (p := 0) (.rd hu) hg
    · exact hg.elim
  | wr x f =>
    simp only [performA, performWr] at hg
    split at hg
    · rename_i b ob u hu
      obtain ⟨rfl, hg⟩ := hg
      exact res (p := 0) (.wr hu) hg
    · rename_i b ob hu
      obtain ⟨rfl, hg⟩ := hg
      exact res (p := 0) (.wr hu) hg
    · exact hg.elim
  | new b ob mk =>
    obtain ⟨rfl, hg⟩ := hg
    refine fin (u := some (mk c.st.length)) (st1 := c.st ++ [ob]) (opAct_nodefer ha) hg fun R hR => ?_
    obtain ⟨d1, d2, d3⟩ := hS.inv.dead 1
    have hdead : deads (c.st ++ List.replicate 1 .dead) c.st.length 1 = true := by
      rw [deads_spec]
      intro k hk
      have : k = 0 := by omega
      subst this
      simp
    refine (Res.new (P := P) (E := E) (p := c.st.length) (ob := ob) (mk := mk) hdead).wp (a := ⟨tmps, Z.ds⟩) hE d1 (hS.fr.mono d3) ha fun g' w' x hto hx => ?_
    refine hR g' w' x ?_ hx
    have hset : (c.st ++ List.replicate 1 Ob.dead).set c.st.length ob = c.st ++ [ob] := by
      rw [List.set_append_right _ _ (Nat.le_refl _)]
      simp
    rw [← hset]
    exact (To.mk d3 d1 d2).trans hto
  | fork b u u' =>
    obtain ⟨hg2, hg1⟩ := hg
    have hs := opAct_sound (P := P) (a := ⟨tmps, Z.ds⟩) o hE hS.inv hS.fr ha
    have one : ∀ {z : V T}, Gives E g w ((execOp (⟨tmps, Z.ds⟩ : Act).eval o).run P w) c.st z → Good P E { c with todo := .ops all rest :: k, fr := putO c.fr o.dst (some z), st := c.st } v st' →
        Ends P E (Z.at tmps (.inRegion all (i :: List.range' (i + 1) (all.size - (i + 1))) :: k') w) c.fn c.keep Z.g0 Z.w0 v st' := fun hz hgood => fin (opAct_nodefer ha) hgood fun R hR => by
      obtain ⟨g', w', x, h1, h2, h3⟩ := hz
      unfold Oper.wp
      rw [h1]
      exact hR g' w' x h2 h3
    rcases hs with hs | ⟨hb, hs⟩
    · exact one hs hg2
    · exact one hs (hg1 hb)
  | call f args =>
    simp only [performA, callOf] at hg
    split at hg
    · exact hg.elim
    · rename_i args1 st1 hh
      split at hg
      · exact hg.elim
      · rename_i ids args2 obs hp
        obtain ⟨r, obs', ⟨⟨fn, hfn, hb, hn⟩, hc⟩, hg⟩ := hg
        dsimp only at hg
        split at hg
        · rename_i u obs2 haf
          refine fin (u := some u) (st1 := merge ids obs2 st1) (opAct_nodefer ha) hg fun R hR => ?_
          obtain ⟨xs, hxs, hent⟩ := opAct_sound (P := P) (a := ⟨tmps, Z.ds⟩) o hE hS.inv hS.fr ha
          unfold Oper.wp
          rw [hent fn hfn hb hn]
          obtain ⟨g1, k1, k2⟩ := handOver_ok hE hS.inv hxs hh
          simp only [Oper.upon]
          refine (call_new k1.inv k2 hp hc haf).mono fun e w' ⟨x, g3, he, hto, hx⟩ => ?_
          subst he
          exact hR g3 w' x (k1.trans hto) hx
        · exact hg.elim
end
end Go.Proofs.YtnenfgpjedddoaaGreat.AI
