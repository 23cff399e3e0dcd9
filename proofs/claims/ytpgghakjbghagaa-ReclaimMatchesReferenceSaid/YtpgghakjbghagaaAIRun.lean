/- The abstract interpreter is right: what it gives is what the program gives. -/
import Derived.Test.YtpgghakjbghagaaAISteps
set_option linter.unusedVariables false
set_option linter.unusedSectionVars false
set_option linter.unusedSimpArgs false
namespace Go.Proofs.Ytpgghakjbghagaa.AI
open Go

variable {K : Type} [DecidableEq K] {T : K → Type}

/-- Runs: X are the functions whose doings are known. -/
inductive Runs (E : Env T) (X : Nat → List (V T) → List (Ob T) → V T → List (Ob T) → Prop) : Cfg T → V T → List (Ob T) → Prop
  | go {c c' v st} (h : step E c = .go c') (k : Runs E X c' v st) : Runs E X c v st
  | need {c c' v st} (h : step E c = .need true c') (k : Runs E X c' v st) : Runs E X c v st
  | br {c b c' d' v st} (h : step E c = .br b c' d') (kt : b = true → Runs E X c' v st) (kf : b = false → Runs E X d' v st) : Runs E X c v st
  | fork {c b c' d' v st} (h : step E c = .fork b c' d') (kd : Runs E X d' v st) (kc : b = true → Runs E X c' v st) : Runs E X c v st
  | ext {c f args obs k r obs' v st} (h : step E c = .call f args obs k) (hx : X f args obs r obs') (hk : Runs E X (k r obs') v st) : Runs E X c v st
  | enter {c f args obs k e r obs' v st} (h : step E c = .call f args obs k) (he : entry E f args obs = some e) (hr : Runs E X e r obs') (hk : Runs E X (k r obs') v st) : Runs E X c v st
  | ret {c v st} (h : step E c = .ret v st) : Runs E X c v st
  | cut {c c' v st} (h : step E c = .cut c') (k : Runs E X c' v st) : Runs E X c v st

variable {E : Env T} {P : Program}

inductive ItemsOk : List (Item T) → List Go.Item → Prop
  | bot : ItemsOk [.code .ret] []
  | code {c k k'} (h : ItemsOk k k') : ItemsOk (.code c :: k) (.code c :: k')
  | reg {id ops draw k k'} (h : ItemsOk k k') : ItemsOk (.reg id ops draw :: k) (.code (.region id ops draw) :: k')
  | inBlock {id k k'} (h : ItemsOk k k') : ItemsOk (.inBlock id :: k) (.inBlock id :: k')
  | inLoop {body slots k k'} (h : ItemsOk k k') : ItemsOk (.inLoop body slots :: k) (.inLoop body :: k')
  | ops {all : Array Oper} {rest k k' i} (hd : all.toList.drop i = rest) (h : ItemsOk k k') : ItemsOk (.ops all rest :: k) (.inRegion all (List.range' i (all.size - i)) :: k')
theorem ItemsOk.exitTo {id : Nat} : ∀ {k : List (Item T)} {k' : List Go.Item} {r : List (Item T)}, ItemsOk k k' → AI.exitTo id k = some r → ∃ r', Go.exitTo id k' = some r' ∧ ItemsOk r r'
  | _, _, r, .bot, h => by simp [AI.exitTo] at h
  | _, _, r, .reg hk, h => by simpa [AI.exitTo, Go.exitTo] using ItemsOk.exitTo hk (by simpa [AI.exitTo] using h)
  | _, _, r, .code hk, h => by simpa [AI.exitTo, Go.exitTo] using ItemsOk.exitTo hk (by simpa [AI.exitTo] using h)
  | _, _, r, .inBlock (id := j) hk, h => by
    simp only [AI.exitTo] at h
    split at h
    · rename_i hb
      have := Nat.eq_of_beq_eq_true hb
      subst this
      simp only [Option.some.injEq] at h
      subst h
      exact ⟨_, by simp [Go.exitTo], hk⟩
    · rename_i hb
      have hne : j ≠ id := fun e => by
        subst e
        have := Nat.beq_refl j
        rw [hb] at this; cases this
      obtain ⟨r', h1, h2⟩ := ItemsOk.exitTo hk h
      exact ⟨r', by simp [Go.exitTo, hne, h1], h2⟩
  | _, _, r, .inLoop hk, h => by simpa [AI.exitTo, Go.exitTo] using ItemsOk.exitTo hk (by simpa [AI.exitTo] using h)
  | _, _, r, .ops hd hk, h => by simpa [AI.exitTo, Go.exitTo] using ItemsOk.exitTo hk (by simpa [AI.exitTo] using h)

/-- What stands ahead, an operation whose guard has spoken among it. -/
inductive Top (c : Cfg T) : List Go.Item → Prop
  | items {todo} (h : ItemsOk c.todo todo) : Top c todo
  | on {all : Array Oper} {o rest k k' i} (hc : c.todo = .on all o rest :: k) (ho : all[i]? = some o) (hd : all.toList.drop (i + 1) = rest) (hdst : dstOk c.n o.dst = true) (hg : GYes all o c.fr) (h : ItemsOk k k') :
      Top c (.inRegion all (i :: List.range' (i + 1) (all.size - (i + 1))) :: k')
/-- The machine is where the interpreter is. -/
structure Sim (P : Program) (E : Env T) (c : Cfg T) (g : Gh) (w : World) (tmps : Array Value) (todo : List Go.Item) : Prop where
  inv : Inv E g c.st w
  fr : FrOk E g c.fr tmps
  size : c.n ≤ tmps.size
  top : Top c todo
  fnOk : ∃ fn, P.funcs[c.fn]? = some fn ∧ c.res = fn.results.toList
def bf (f : Nat) : Frame := { (default : Frame) with fn := f, kind := .normal }
def Ends (P : Program) (E : Env T) (c : Cfg T) (g : Gh) (w : World) (tmps : Array Value) (todo : List Go.Item) (v : V T) (st' : List (Ob T)) : Prop :=
  ∀ cs, ∃ fr' w' g' x, Steps P (lone ((bf c.fn).at ⟨tmps, []⟩ todo) cs w) (lone fr' cs w') ∧ fr'.fn = c.fn ∧ fr'.leaving P w' (.returned x) ∧ Inv E g' st' w' ∧ Ext g g' w w' ∧ KinTo c.keep g g' ∧ Rep E g' v x
def Sound (P : Program) (E : Env T) (c : Cfg T) (v : V T) (st' : List (Ob T)) : Prop := ∀ g w tmps todo, Sim P E c g w tmps todo → Ends P E c g w tmps todo v st'

theorem Ends.next {c c1 : Cfg T} {g g1 : Gh} {w w1 : World} {tmps tmps1 : Array Value} {todo todo1 : List Go.Item} {v : V T} {st' : List (Ob T)} (hs : ∀ cs, Steps P (lone ((bf c.fn).at ⟨tmps, []⟩ todo) cs w) (lone ((bf c.fn).at ⟨tmps1, []⟩ todo1) cs w1))
    (he : Ext g g1 w w1) (hk : KinTo c.keep g g1) (hfn : c1.fn = c.fn) (hkeep : c1.keep = c.keep) (h : Ends P E c1 g1 w1 tmps1 todo1 v st') : Ends P E c g w tmps todo v st' := fun cs => by
  obtain ⟨fr', w', g', x, h1, h2, h3, h4, h5, h6, h7⟩ := h cs
  rw [hfn] at h1 h2
  rw [hkeep] at h6
  exact ⟨fr', w', g', x, (hs cs).trans h1, h2, h3, h4, he.trans h5, hk.trans h6, h7⟩

/-- One operation of a region, by its 'wp'. -/
theorem one_op {b : Frame} {a : Act} {k : List Go.Item} {w : World} {ops : Array Oper} {i : Nat} {rest : List Nat} {o : Oper} (ho : ops[i]? = some o) (hw : Region.wanted o (yielded ops a.tmps) = true) {R : Act → World → Prop}
    (h : o.wp P a w R (fun _ _ _ => False)) (cs : List Frame) :
    ∃ a' w', R a' w' ∧ Steps P (lone (b.at a (.inRegion ops (i :: rest) :: k)) cs w) (lone (b.at a' (.inRegion ops rest :: k)) cs w') := by
  have hg := stepG_op (P := P) (b := b) (k := k) (cs := cs) (w := w) (rest := rest) ho hw
  have hfin : ∀ v, (b.at a (.inRegion ops (i :: rest) :: k)).finish v = b.at (a.put o.dst v) (.inRegion ops rest :: k) := by
    intro v; rw [Frame.finish_at, ho]; rfl
  simp only [Oper.wp, Oper.upon] at h
  split at h
  · rename_i v w' hr
    exact ⟨_, w', h, .one (step_lone_go (by rw [hg, ← hfin]; simp [stepG.apply, hr]))⟩
  · rename_i w' hr
    exact ⟨_, w', h, .one (step_lone_go (by rw [hg, ← hfin]; simp [stepG.apply, hr]))⟩
  · rename_i d w' hr
    refine ⟨_, w', h, .one (step_lone_go ?_)⟩
    have : ({ b.at a (.inRegion ops (i :: rest) :: k) with defers := d :: a.defers } : Frame).finish undef = b.at ({ a with defers := d :: a.defers }.put o.dst undef) (.inRegion ops rest :: k) := by
      have := Frame.finish_at b { a with defers := d :: a.defers } ops i rest k undef
      rw [ho] at this; exact this
    rw [hg]; simp only [stepG.apply, Sem.runT_eq, hr, GStep.bare_after]
    exact congrArg (fun fr => GStep.go { frame := fr, callers := cs, status := .running, dying := none } w') this
  · rename_i f args w' hr
    obtain ⟨e, w'', fr, hR, hsteps, _, hleave⟩ := h (b.at a (.inRegion ops (i :: rest) :: k) :: cs)
    have henter : Go.step P (lone (b.at a (.inRegion ops (i :: rest) :: k)) cs w) = .next (lone (Frame.enter P f args .normal) (b.at a (.inRegion ops (i :: rest) :: k) :: cs) w') :=
      step_lone_go (by rw [hg]; simp [stepG.apply, hr, Frame.at])
    cases e with
    | returned v =>
      refine ⟨_, w'', hR, .head henter (hsteps.trans (.one ?_))⟩
      rw [← hfin]; exact step_leave_returned hleave
    | panicked chain => exact hR.elim
    | outgrown =>
      obtain ⟨_, _, hq⟩ := hR
      exact hq.elim
  · rename_i row args w' hr
    obtain ⟨v, w'', hR, hsteps⟩ := h (b.at a (.inRegion ops (i :: rest) :: k)) cs
    have henter : Go.step P (lone (b.at a (.inRegion ops (i :: rest) :: k)) cs w) = .next (lone (Frame.ofRow P row args .normal) (b.at a (.inRegion ops (i :: rest) :: k) :: cs) w') :=
      step_lone_go (by rw [hg]; simp [stepG.apply, hr, Frame.at])
    refine ⟨_, w'', hR, .head henter ?_⟩
    rw [← hfin]; exact hsteps
  · exact h.elim
  · exact h.elim

/-! ### What a step leads to -/
def DGood (P : Program) (E : Env T) (c : Cfg T) (all : Array Oper) (rest : List Oper) (i base : Nat) (foot : List Foot) (k : List (Item T)) (v : V T) (st' : List (Ob T)) : Prop :=
  (∃ k', ItemsOk k k') → all.toList.drop i = rest → ∃ L fr1 st1, Run P E all c.n base (c.fr, c.st) L (fr1, st1) ∧ L.map (·.i) = List.range' i (all.size - i) ∧ (∀ l ∈ L, all[l.i]? = some l.o ∧ l.F.idx = l.i) ∧
    regOk all (foot ++ L.map (·.F)) = true ∧ Sound P E { c with todo := k, fr := fr1, st := st1 } v st'
def Good (P : Program) (E : Env T) (c : Cfg T) (v : V T) (st' : List (Ob T)) : Prop :=
  match c.todo with
  | [] => False
  | .dops all rest i base foot :: k => DGood P E c all rest i base foot k v st'
  | .don all o rest i base foot :: k => GYes all o c.fr → dstOk c.n o.dst = true → DGood P E c all (o :: rest) i base foot k v st'
  | .rounds .. :: _ => True
  | _ => Sound P E c v st'
def NxGood (P : Program) (E : Env T) (v : V T) (st' : List (Ob T)) : Nx T → Prop
  | .go c => Good P E c v st'
  | .need b c => b = true ∧ Good P E c v st'
  | .br b c d => (b = true → Good P E c v st') ∧ (b = false → Good P E d v st')
  | .fork b c d => Good P E d v st' ∧ (b = true → Good P E c v st')
  | .call f args obs k => ∃ r obs', Callee P E f args obs r obs' ∧ Good P E (k r obs') v st'
  | .ret v1 st1 => v1 = v ∧ st1 = st'
  | .cut c => Good P E c v st'
  | .stuck => False
theorem Good.sound {c : Cfg T} {v : V T} {st' : List (Ob T)} (h : Good P E c v st') (hi : ∃ k', ItemsOk c.todo k') : Sound P E c v st' := by
  obtain ⟨k', hi⟩ := hi
  unfold Good at h
  cases hc : c.todo with
  | nil => rw [hc] at hi; cases hi
  | cons x k =>
    rw [hc] at hi h
    cases hi <;> exact h
theorem Good.on {c : Cfg T} {v : V T} {st' : List (Ob T)} {all : Array Oper} {o : Oper} {rest : List Oper} {k : List (Item T)} (h : Good P E c v st') (hc : c.todo = .on all o rest :: k) : Sound P E c v st' := by
  unfold Good at h
  rw [hc] at h
  exact h

/-! ### Operations of a region whose order is drawn -/
section
variable {c : Cfg T} {v : V T} {st' : List (Ob T)} {all : Array Oper} {o : Oper} {rest : List Oper} {k : List (Item T)} {i base : Nat} {foot : List Foot}
theorem DGood.cons {fr1 : Fr T} {st1 : List (Ob T)} {rd wr : List Nat} (h : Ex P E all c.n base (c.fr, c.st) ⟨i, o, footOf all o i rd wr⟩ (fr1, st1)) (hg : Good P E (dgo c all o rest k i base foot rd wr fr1 st1) v st') : DGood P E c all (o :: rest) i base foot k v st' := by
  intro hk hd
  have hil : i < all.size := by
    refine Nat.lt_of_not_le fun hle => ?_
    rw [List.drop_eq_nil_of_le (by simpa using hle)] at hd
    cases hd
  have hio : all[i]? = some o := by
    have : (all.toList.drop i)[0]? = some o := by rw [hd]; rfl
    rw [List.getElem?_drop] at this
    simpa using this
  have hrest : all.toList.drop (i + 1) = rest := by
    rw [← List.tail_drop, hd]
    rfl
  obtain ⟨L, fr2, st2, h1, h2, h3, h4, h5⟩ := (show DGood P E (dgo c all o rest k i base foot rd wr fr1 st1) all rest (i + 1) base (foot ++ [footOf all o i rd wr]) k v st' from hg) hk hrest
  refine ⟨⟨i, o, footOf all o i rd wr⟩ :: L, fr2, st2, .cons h h1, ?_, ?_, ?_, h5⟩
  · rw [List.map_cons, h2, show all.size - i = (all.size - (i + 1)) + 1 by omega, List.range'_succ]
  · intro l hl
    rcases List.mem_cons.1 hl with rfl | hl
    · exact ⟨hio, rfl⟩
    · exact h3 l hl
  · rw [List.map_cons]
    rw [List.append_assoc] at h4
    exact h4
theorem performD_good {a : Ask T} (ha : opAct E c.fr o = some a) (hy : GYes all o c.fr) (hdst : dstOk c.n o.dst = true) (h : NxGood P E v st' (performD E c all o rest k i base foot a)) : DGood P E c all (o :: rest) i base foot k v st' := by
  have one : ∀ {rd wr u st1}, Res P E (base + 4 * i) c.st a rd wr u st1 → Good P E (dgo c all o rest k i base foot rd wr (putO c.fr o.dst u) st1) v st' → DGood P E c all (o :: rest) i base foot k v st' := fun hr hg =>
    DGood.cons ⟨_, _, _, .inr ⟨hy, a, ha, hr⟩, rfl, hdst, fun _ => rfl⟩ hg
  cases a with
  | val u => exact one (.val u) h
  | need b u =>
    obtain ⟨rfl, h⟩ := h
    exact one (.need u) h
  | rd x f =>
    simp only [performD] at h
    split at h
    · rename_i b u hu
      obtain ⟨rfl, h⟩ := h
      exact one (.rd hu) h
    · exact h.elim
  | wr x f =>
    simp only [performD] at h
    split at h
    · rename_i b ob u hu
      obtain ⟨rfl, h⟩ := h
      exact one (.wr hu) h
    · rename_i b ob hu
      obtain ⟨rfl, h⟩ := h
      exact one (.wr hu) h
    · exact h.elim
  | new b ob mk =>
    simp only [performD] at h
    split at h
    · rename_i hd
      obtain ⟨rfl, h⟩ := h
      exact one (.new hd) h
    · exact h.elim
  | fork b u u' => exact h.elim
  | call f args =>
    simp only [performD] at h
    split at h
    · rename_i args1 st1 hn hh
      simp only [Bool.and_eq_true] at hn
      have hst := handOver_same hn.1 hh
      subst hst
      split at h
      · exact h.elim
      · rename_i ids args2 obs hp
        obtain ⟨r, obs', hc, hg⟩ := h
        dsimp only at hg
        split at hg
        · rename_i u obs2 haf hle
          exact one (.call hn.1 hn.2 hh hp hc haf (Nat.le_of_ble_eq_true hle)) hg
        · exact hg.elim
    · exact h.elim
end
end Go.Proofs.Ytpgghakjbghagaa.AI
