/- The abstract interpreter is right: what it gives is what the program gives. -/
import Derived.Test.YtnenfgpjedddoaaGreatAIBk
set_option linter.unusedVariables false
set_option linter.unusedSectionVars false
set_option linter.unusedSimpArgs false
namespace Go.Proofs.YtnenfgpjedddoaaGreat.AI
open Go

variable {K : Type} [DecidableEq K] {T : K → Type}

/-- Runs: X are the functions whose doings are known. -/
inductive Runs (E : Env T) (X : Nat → List (V T) → List (Ob T) → V T → List (Ob T) → Prop) : Cfg T → V T → List (Ob T) → Prop
  | go {c c' v st} (h : step E c = .go c') (k : Runs E X c' v st) : Runs E X c v st
  | need {c c' v st} (h : step E c = .need true c') (k : Runs E X c' v st) : Runs E X c v st
  | br {c b c' d' v st} (h : step E c = .br b c' d') (kt : b = true → Runs E X c' v st) (kf : b = false → Runs E X d' v st) : Runs E X c v st
  | fork {c b c' d' v st} (h : step E c = .fork b c' d') (kd : Runs E X d' v st) (kc : b = true → Runs E X c' v st) : Runs E X c v st
  | ext {c f args obs k r obs' v st} (h : step E c = .call f args obs k) (hx : X f args obs r obs') (hk : Runs E X (k r obs') v st) : Runs E X c v st
  | enter {c f args obs k e r obs' v st} (h : step E c = .call f args obs k) (he : entry E f args obs = some e) (hr : Runs E X e r obs') (hk : Runs E X (k r obs') v st) : Runs E X c v st
  | ret {c v st} (h : step E c = .ret v st) : Runs E X c v st
  | cut {c c' v st} (h : step E c = .cut c') (k : Runs E X c' v st) : Runs E X c v st

variable {E : Env T} {P : Program}

/-- In whose frame the machine is: the function's own, or a round's of a loop over a function, ahead of its body or in it. -/
inductive Zn {K : Type} (T : K → Type) where
  | top
  | pre (r : Rnd T) (fr : Fr T) (i : Nat) (k : List (Item T))
  | rnd (r : Rnd T) (fr : Fr T) (i : Nat) (k : List (Item T))
inductive ItemsOk : Zn T → List (Item T) → List Go.Item → Prop
  | bot : ItemsOk .top [.code .ret] []
  | pre {r fr i k} : ItemsOk (.pre r fr i k) (.begin :: .code r.body :: .rend r fr i :: k) [.beginRound, .code r.body]
  | rnd {r fr i k} : ItemsOk (.rnd r fr i k) (.rend r fr i :: k) []
  | code {z c k k'} (h : ItemsOk z k k') : ItemsOk z (.code c :: k) (.code c :: k')
  | reg {z id ops draw k k'} (h : ItemsOk z k k') : ItemsOk z (.reg id ops draw :: k) (.code (.region id ops draw) :: k')
  | inBlock {z id k k'} (h : ItemsOk z k k') : ItemsOk z (.inBlock id :: k) (.inBlock id :: k')
  | inLoop {z body slots k k'} (h : ItemsOk z k k') : ItemsOk z (.inLoop body slots :: k) (.inLoop body :: k')
  | ops {z} {all : Array Oper} {rest k k' i} (hd : all.toList.drop i = rest) (h : ItemsOk z k k') : ItemsOk z (.ops all rest :: k) (.inRegion all (List.range' i (all.size - i)) :: k')
theorem ItemsOk.exitTo {z : Zn T} {id : Nat} : ∀ {k : List (Item T)} {k' : List Go.Item} {r : List (Item T)}, ItemsOk z k k' → AI.exitTo id k = some r → ∃ r', Go.exitTo id k' = some r' ∧ ItemsOk z r r'
  | _, _, r, .bot, h => by simp [AI.exitTo] at h
  | _, _, r, .pre, h => by simp [AI.exitTo] at h
  | _, _, r, .rnd, h => by simp [AI.exitTo] at h
  | _, _, r, .reg hk, h => by simpa [AI.exitTo, Go.exitTo] using ItemsOk.exitTo hk (by simpa [AI.exitTo] using h)
  | _, _, r, .code hk, h => by simpa [AI.exitTo, Go.exitTo] using ItemsOk.exitTo hk (by simpa [AI.exitTo] using h)
  | _, _, r, .inBlock (id := j) hk, h => by
    simp only [AI.exitTo] at h
    split at h
    · rename_i hb
      have := Nat.eq_of_beq_eq_true hb
      subst this
      simp only [Option.some.injEq] at h
      subst h
      exact ⟨_, by simp [Go.exitTo], hk⟩
    · rename_i hb
      have hne : j ≠ id := fun e => by
        subst e
        have := Nat.beq_refl j
        rw [hb] at this; cases this
      obtain ⟨r', h1, h2⟩ := ItemsOk.exitTo hk h
      exact ⟨r', by simp [Go.exitTo, hne, h1], h2⟩
  | _, _, r, .inLoop hk, h => by simpa [AI.exitTo, Go.exitTo] using ItemsOk.exitTo hk (by simpa [AI.exitTo] using h)
  | _, _, r, .ops hd hk, h => by simpa [AI.exitTo, Go.exitTo] using ItemsOk.exitTo hk (by simpa [AI.exitTo] using h)
/-- An exit that leaves the round. -/
theorem ItemsOk.exitOut {id : Nat} {r : Rnd T} {fr : Fr T} {i : Nat} {kF : List (Item T)} : ∀ {k : List (Item T)} {k' : List Go.Item}, ItemsOk (.rnd r fr i kF) k k' → AI.exitTo id k = none → Go.exitTo id k' = none
  | _, _, .rnd, _ => by simp [Go.exitTo]
  | _, _, .reg hk, h => by simpa [Go.exitTo] using ItemsOk.exitOut hk (by simpa [AI.exitTo] using h)
  | _, _, .code hk, h => by simpa [Go.exitTo] using ItemsOk.exitOut hk (by simpa [AI.exitTo] using h)
  | _, _, .inBlock (id := j) hk, h => by
    simp only [AI.exitTo] at h
    split at h
    · cases h
    · rename_i hb
      have hne : j ≠ id := fun e => by
        subst e
        have := Nat.beq_refl j
        rw [hb] at this; cases this
      simp [Go.exitTo, hne, ItemsOk.exitOut hk h]
  | _, _, .inLoop hk, h => by simpa [Go.exitTo] using ItemsOk.exitOut hk (by simpa [AI.exitTo] using h)
  | _, _, .ops hd hk, h => by simpa [Go.exitTo] using ItemsOk.exitOut hk (by simpa [AI.exitTo] using h)
def Zn.zk : Zn T → Zk T
  | .top => .top
  | .pre .. => .pre
  | .rnd r fr i k => .rnd r fr i k
theorem ItemsOk.zone {z : Zn T} : ∀ {k : List (Item T)} {k' : List Go.Item}, ItemsOk z k k' → zoneOf k = z.zk
  | _, _, .bot => rfl
  | _, _, .pre => rfl
  | _, _, .rnd => rfl
  | _, _, .reg hk => by simpa [zoneOf] using hk.zone
  | _, _, .code hk => by simpa [zoneOf] using hk.zone
  | _, _, .inBlock hk => by simpa [zoneOf] using hk.zone
  | _, _, .inLoop hk => by simpa [zoneOf] using hk.zone
  | _, _, .ops hd hk => by simpa [zoneOf] using hk.zone
theorem ItemsOk.top {z : Zn T} {k : List (Item T)} {k' : List Go.Item} (h : ItemsOk z k k') (ht : zoneOf k = .top) : z = .top := by
  rw [h.zone] at ht
  cases z <;> first | rfl | cases ht

/-- What stands ahead, an operation whose guard has spoken among it. -/
inductive Top (z : Zn T) (c : Cfg T) : List Go.Item → Prop
  | items {todo} (h : ItemsOk z c.todo todo) : Top z c todo
  | on {all : Array Oper} {o rest k k' i} (hc : c.todo = .on all o rest :: k) (ho : all[i]? = some o) (hd : all.toList.drop (i + 1) = rest) (hdst : dstOk c.n o.dst = true) (hg : GYes all o c.fr) (h : ItemsOk z k k') :
      Top z c (.inRegion all (i :: List.range' (i + 1) (all.size - (i + 1))) :: k')
def bf (f : Nat) : Frame := { (default : Frame) with fn := f, kind := .normal }
/-- The marks of loops that are over, or on. -/
def marks (rs : List Nat) : List Deferred := rs.map fun r => { target := .collected r, args := #[] }
structure MarksOk (g : Gh) (w w0 : World) (rs : List Nat) : Prop where
  nodup : rs.Nodup
  each : ∀ r ∈ rs, w0.heap.size ≤ r ∧ ¬ g.owns r ∧ w.heap[r]? = some (.deferred (some []))
theorem owns_new {g g1 : Gh} {w w1 : World} (he : Ext g g1 w w1) {b : Nat} {o : Obj} (hb : w.heap[b]? = some o) (hn : ¬ g.owns b) : ¬ g1.owns b ∧ w1.heap[b]? = some o := by
  have hlt := heap_lt hb
  refine ⟨fun h => ?_, (he.keeps b hlt hn).1.trans hb⟩
  rcases he.own b h with h | h
  · exact hn h
  · omega
theorem MarksOk.mono {g g1 : Gh} {w w1 w0 : World} {rs : List Nat} (h : MarksOk g w w0 rs) (he : Ext g g1 w w1) : MarksOk g1 w1 w0 rs :=
  ⟨h.nodup, fun r hr => let ⟨a, b, c⟩ := h.each r hr; let ⟨d, e⟩ := owns_new he c b; ⟨a, d, e⟩⟩
/-- A block that is none of ours, and no cells, may turn. -/
theorem Inv.putObj {g : Gh} {st : List (Ob T)} {w : World} (hi : Inv E g st w) {b : Nat} {o o' : Obj} (hn : ¬ g.owns b) (ho : w.heap[b]? = some o) (hc : ∀ x t f, o ≠ .cells x t f) : Inv E g st (w.putObj b o') := by
  have hcell : ∀ b' off v, g.G b' off = some v → b' ≠ b := fun b' off v hg e => by
    subst e
    have := hi.froz _ _ _ hg
    unfold World.cell? at this
    rw [ho] at this
    cases o <;> first | (cases this; done) | exact absurd rfl (hc _ _ _)
  refine ⟨fun b' off v hg => ?_, hi.len, fun i ob l h1 h2 => ?_, hi.apart, hi.glob, hi.ints⟩
  · exact (cell?_block (World.putObj_heap_other (hcell b' off v hg)) off).trans (hi.froz b' off v hg)
  · refine (hi.obs i ob l h1 h2).mono (.refl g) (by simp) fun b' hb' => ⟨World.putObj_heap_other fun e => hn ?_, fun _ => rfl⟩
    subst e
    exact ⟨i, l, h2, hb'⟩
theorem Ext.putObj {g0 g : Gh} {w0 w : World} (he : Ext g0 g w0 w) {b : Nat} (o : Obj) (hb : w0.heap.size ≤ b) : Ext g0 g w0 (w.putObj b o) := by
  refine ⟨he.G, he.os, he.tape, he.output, by simpa using he.size, fun b' h1 h2 => ?_, he.own⟩
  obtain ⟨k1, k2⟩ := he.keeps b' h1 h2
  exact ⟨(World.putObj_heap_other (by omega)).trans k1, k2⟩
theorem MarksOk.putObj {g : Gh} {w w0 : World} {rs : List Nat} (h : MarksOk g w w0 rs) {b : Nat} {o : Obj} (hb : b ∉ rs) : MarksOk g (w.putObj b o) w0 rs :=
  ⟨h.nodup, fun r hr => let ⟨a, c, d⟩ := h.each r hr; ⟨a, c, (World.putObj_heap_other (fun e => by subst e; exact hb hr)).trans d⟩⟩
theorem Inv.alloc {g : Gh} {st : List (Ob T)} {w : World} (hi : Inv E g st w) (o : Obj) : Inv E g st (w.alloc o) ∧ Ext g g w (w.alloc o) := by
  have := Inv.grow (G' := g.G) (w' := w.alloc o) hi (.refl _) (fun b off v hg => ?_) rfl rfl rfl (by simp) (fun b hb => ⟨?_, fun _ => rfl⟩)
  · exact ⟨this.1, this.2.1⟩
  · have hlt := hi.glt hg
    exact (cell?_block (RowKit.Below.heap_alloc w o b hlt) off).trans (hi.froz b off v hg)
  · exact RowKit.Below.heap_alloc w o b hb
/-- A frame that returns takes over what its loops have left: nothing. -/
theorem unwind_marks {st : List (Ob T)} {g0 g : Gh} {w0 : World} {cs : List Frame} : ∀ (rs : List Nat) {w : World} {fr : Frame}, Inv E g st w → MarksOk g w w0 rs → Ext g0 g w0 w → fr.mode = .returning → fr.defers = marks rs →
    ∃ w', Steps P (lone fr cs w) (lone { fr with defers := [] } cs w') ∧ Inv E g st w' ∧ Ext g0 g w0 w'
  | [], w, fr, hi, hm, he, hmode, hd => ⟨w, by
      have : { fr with defers := [] } = fr := by
        cases fr; simp only at hd; subst hd; rfl
      rw [this]; exact .refl _ _, hi, he⟩
  | r :: rs, w, fr, hi, hm, he, hmode, hd => by
    obtain ⟨h1, h2, h3⟩ := hm.each r (List.mem_cons_self ..)
    have hs := step_collected (P := P) (cs := cs) (fr := fr) (w := w) (by rw [hmode]; simp) hd rfl (run_takeDeferred h3)
    have hnd := List.nodup_cons.1 hm.nodup
    obtain ⟨w', k1, k2, k3⟩ := unwind_marks rs (w := w.putObj r (.deferred none)) (fr := { fr with defers := [] ++ marks rs }) (cs := cs) (hi.putObj h2 h3 (fun _ _ _ h => by cases h))
      (MarksOk.putObj ⟨hnd.2, fun r' hr' => hm.each r' (List.mem_cons_of_mem _ hr')⟩ hnd.1) (he.putObj _ h1) hmode rfl
    exact ⟨w', .head hs k1, k2, k3⟩

/-- A loop over a function, as the machine keeps it. -/
structure LoopOk (P : Program) (E : Env T) (fn n : Nat) (g : Gh) (w w0 : World) (r : Rnd T) (fr0 : Fr T) (k : List (Item T)) (s : LoopState) (l : Nat) (rs : List Nat) (tmps0 : Array Value) (k' : List Go.Item) : Prop where
  items : ItemsOk .top k k'
  fr : FrOk E g fr0 tmps0
  size : n ≤ tmps0.size
  marks : MarksOk g w w0 rs
  new : w0.heap.size ≤ l
  own : ¬ g.owns l
  record : ∃ d, w.heap[l]? = some (.loop { state := s, pending := none, fn, tmps := tmps0, params := #[r.p, r.q], assign := r.assign, body := r.body, defers := d })
theorem LoopOk.mono {fn n : Nat} {g g1 : Gh} {w w1 w0 : World} {r : Rnd T} {fr0 : Fr T} {k : List (Item T)} {s : LoopState} {l : Nat} {rs : List Nat} {tmps0 : Array Value} {k' : List Go.Item} (h : LoopOk P E fn n g w w0 r fr0 k s l rs tmps0 k') (he : Ext g g1 w w1) (hl : g.Le g1) :
    LoopOk P E fn n g1 w1 w0 r fr0 k s l rs tmps0 k' := by
  obtain ⟨d, hd⟩ := h.record
  obtain ⟨a, b⟩ := owns_new he hd h.own
  exact ⟨h.items, h.fr.mono hl, h.size, h.marks.mono he, h.new, a, d, b⟩
structure GOk (E : Env T) (g : Gh) (r : Rnd T) (i l : Nat) (tG : Array Value) : Prop where
  size : tG.size = 19
  yld : tG[0]? = some (.func (.yield l) #[] #[])
  fr : FrOk E g [(1, some r.cap), (3, some (.int .i64 ((i : Int) - 1)))] tG
  small : i < 4611686018427387904
theorem GOk.mono {g g1 : Gh} {r : Rnd T} {i l : Nat} {tG : Array Value} (h : GOk E g r i l tG) (hl : g.Le g1) : GOk E g1 r i l tG := ⟨h.size, h.yld, h.fr.mono hl, h.small⟩
def BackFn.loopBody {G : Nat} {e : K} (B : BackFn P E G e) : Code := .seq (.seq (.region B.i1 B.r1 false) (.cond (.tmp 8) .skip (.exit B.b0))) (.seq (.block B.b1 (.seq (.region B.i3 B.r3 false) (.cond (.tmp 18) .ret .skip))) (.region B.i2 B.r2 false))
/-- The loop's own frame, while it runs. -/
def FF (fn : Nat) (rs : List Nat) (tmps0 : Array Value) (l : Nat) (k' : List Go.Item) : Frame := (bf fn).atR ⟨tmps0, marks rs⟩ (.inRangeFunc l :: k')
/-- The frame of what slices.Backward returned, in its call of yield. -/
def FG {G : Nat} {e : K} (B : BackFn P E G e) (tG : Array Value) : Frame := (bf G).atR ⟨tG, []⟩ (.inRegion B.r3 [6, 7] :: [.code (.cond (.tmp 18) .ret .skip), .inBlock B.b1, .code (.region B.i2 B.r2 false), .inLoop B.loopBody, .inBlock B.b0])
/-- And at its loop's head. -/
def FH {G : Nat} {e : K} (B : BackFn P E G e) (tG : Array Value) : Frame := (bf G).atR ⟨tG, []⟩ [.code B.loopBody, .inLoop B.loopBody, .inBlock B.b0]
structure Zone {K : Type} (T : K → Type) where
  b : Frame
  ds : List Deferred
  above : List Frame
  kind : Zn T
  g0 : Gh
  w0 : World
def Zone.at (Z : Zone T) (tmps : Array Value) (todo : List Go.Item) (w : World) (cs : List Frame) : Machine := lone (Z.b.atR ⟨tmps, Z.ds⟩ todo) (Z.above ++ cs) w
def InRound (P : Program) (E : Env T) (fn n : Nat) (g : Gh) (w : World) (Z : Zone T) (r : Rnd T) (fr0 : Fr T) (i : Nat) (k : List (Item T)) (s : LoopState) : Prop :=
  ∃ (l : Nat) (rs : List Nat) (tmps0 : Array Value) (k' : List Go.Item) (G : Nat) (tG : Array Value) (B : BackFn P E G r.e), Z.b = { bf fn with roundOf := some l } ∧ Z.ds = [] ∧ Z.above = [FG B tG, FF fn rs tmps0 l k'] ∧
    LoopOk P E fn n g w Z.w0 r fr0 k s l rs tmps0 k' ∧ GOk E g r i l tG ∧ 0 < i
def Zone.Ok (P : Program) (E : Env T) (fn n : Nat) (g : Gh) (w : World) (Z : Zone T) : Prop :=
  match Z.kind with
  | .top => ∃ rs, Z.b = bf fn ∧ Z.ds = marks rs ∧ Z.above = [] ∧ MarksOk g w Z.w0 rs
  | .pre r fr0 i k => InRound P E fn n g w Z r fr0 i k .ready
  | .rnd r fr0 i k => InRound P E fn n g w Z r fr0 i k .busy
theorem InRound.mono {fn n : Nat} {g g1 : Gh} {w w1 : World} {Z : Zone T} {r : Rnd T} {fr0 : Fr T} {i : Nat} {k : List (Item T)} {s : LoopState} (h : InRound P E fn n g w Z r fr0 i k s) (he : Ext g g1 w w1) (hl : g.Le g1) : InRound P E fn n g1 w1 Z r fr0 i k s := by
  obtain ⟨l, rs, tmps0, k', G, tG, B, h1, h2, h3, h4, h5, h6⟩ := h
  exact ⟨l, rs, tmps0, k', G, tG, B, h1, h2, h3, h4.mono he hl, h5.mono hl, h6⟩
theorem Zone.Ok.mono {fn n : Nat} {g g1 : Gh} {w w1 : World} {Z : Zone T} (h : Z.Ok P E fn n g w) (he : Ext g g1 w w1) (hl : g.Le g1) : Z.Ok P E fn n g1 w1 := by
  unfold Zone.Ok at h ⊢
  split at h
  · obtain ⟨rs, h1, h2, h3, h4⟩ := h
    exact ⟨rs, h1, h2, h3, h4.mono he⟩
  · exact InRound.mono h he hl
  · exact InRound.mono h he hl
theorem Zone.Ok.fn {fn n : Nat} {g : Gh} {w : World} {Z : Zone T} (h : Z.Ok P E fn n g w) : Z.b.fn = fn ∧ Z.b.kind = .normal := by
  unfold Zone.Ok at h
  split at h
  · obtain ⟨rs, h1, _⟩ := h; rw [h1]; exact ⟨rfl, rfl⟩
  · obtain ⟨l, rs, tmps0, k', G, tG, B, h1, _⟩ := h; rw [h1]; exact ⟨rfl, rfl⟩
  · obtain ⟨l, rs, tmps0, k', G, tG, B, h1, _⟩ := h; rw [h1]; exact ⟨rfl, rfl⟩
/-- The machine is where the interpreter is. -/
structure Sim (P : Program) (E : Env T) (Z : Zone T) (c : Cfg T) (g : Gh) (w : World) (tmps : Array Value) (todo : List Go.Item) : Prop where
  inv : Inv E g c.st w
  fr : FrOk E g c.fr tmps
  size : c.n ≤ tmps.size
  top : Top Z.kind c todo
  fnOk : ∃ fn, P.funcs[c.fn]? = some fn ∧ c.res = fn.results.toList
  zone : Z.Ok P E c.fn c.n g w
  ext : Ext Z.g0 g Z.w0 w
  kin : KinTo c.keep Z.g0 g
def Ends (P : Program) (E : Env T) (m : List Frame → Machine) (fn keep : Nat) (g0 : Gh) (w0 : World) (v : V T) (st' : List (Ob T)) : Prop :=
  ∀ cs, ∃ fr' w' g' x, Steps P (m cs) (lone fr' cs w') ∧ fr'.fn = fn ∧ fr'.leaving P w' (.returned x) ∧ Inv E g' st' w' ∧ Ext g0 g' w0 w' ∧ KinTo keep g0 g' ∧ Rep E g' v x
def Sound (P : Program) (E : Env T) (c : Cfg T) (v : V T) (st' : List (Ob T)) : Prop := ∀ Z g w tmps todo, Sim P E Z c g w tmps todo → Ends P E (Z.at tmps todo w) c.fn c.keep Z.g0 Z.w0 v st'
/-- At a loop's head: what slices.Backward returned is ahead of a round, or at its end. -/
structure HSim (P : Program) (E : Env T) (c : Cfg T) (r : Rnd T) (i : Nat) (k : List (Item T)) (g : Gh) (w : World) (g0 : Gh) (w0 : World) (m : List Frame → Machine) : Prop where
  inv : Inv E g c.st w
  fnOk : ∃ fn, P.funcs[c.fn]? = some fn ∧ c.res = fn.results.toList
  ext : Ext g0 g w0 w
  kin : KinTo c.keep g0 g
  loop : ∃ (l : Nat) (rs : List Nat) (tmps0 : Array Value) (k' : List Go.Item) (G : Nat) (tG : Array Value) (B : BackFn P E G r.e), m = (fun cs => lone (FH B tG) (FF c.fn rs tmps0 l k' :: cs) w) ∧ LoopOk P E c.fn c.n g w w0 r c.fr k .ready l rs tmps0 k' ∧ GOk E g r i l tG
def HSound (P : Program) (E : Env T) (c : Cfg T) (r : Rnd T) (i : Nat) (k : List (Item T)) (v : V T) (st' : List (Ob T)) : Prop := ∀ g w g0 w0 m, HSim P E c r i k g w g0 w0 m → Ends P E m c.fn c.keep g0 w0 v st'

theorem Ends.next {m m1 : List Frame → Machine} {fn fn1 keep keep1 : Nat} {g0 : Gh} {w0 : World} {v : V T} {st' : List (Ob T)} (hs : ∀ cs, Steps P (m cs) (m1 cs)) (hfn : fn1 = fn) (hkeep : keep1 = keep) (h : Ends P E m1 fn1 keep1 g0 w0 v st') : Ends P E m fn keep g0 w0 v st' := fun cs => by
  subst hfn hkeep
  obtain ⟨fr', w', g', x, h1, h2⟩ := h cs
  exact ⟨fr', w', g', x, (hs cs).trans h1, h2⟩

/-- One operation of a region, by its 'wp'. -/
theorem one_op {b : Frame} {a : Act} {k : List Go.Item} {w : World} {ops : Array Oper} {i : Nat} {rest : List Nat} {o : Oper} (ho : ops[i]? = some o) (hw : Region.wanted o (yielded ops a.tmps) = true) (hd : ∀ c, o.op ≠ .defer c) {R : Act → World → Prop}
    (h : o.wp P a w R (fun _ _ _ => False)) (cs : List Frame) :
    ∃ a' w', R a' w' ∧ Steps P (lone (b.atR a (.inRegion ops (i :: rest) :: k)) cs w) (lone (b.atR a' (.inRegion ops rest :: k)) cs w') := by
  have hg := stepGR_op (P := P) (b := b) (k := k) (cs := cs) (w := w) (rest := rest) ho hw
  rw [Oper.semAt_eq _ _ _ hd] at hg
  have hfin : ∀ v, (b.atR a (.inRegion ops (i :: rest) :: k)).finish v = b.atR (a.put o.dst v) (.inRegion ops rest :: k) := by
    intro v; rw [Frame.finish_atR, ho]; rfl
  simp only [Oper.wp, Oper.upon] at h
  split at h
  · rename_i v w' hr
    exact ⟨_, w', h, .one (step_lone_go (by rw [hg, ← hfin]; simp [stepG.apply, hr]))⟩
  · rename_i w' hr
    exact ⟨_, w', h, .one (step_lone_go (by rw [hg, ← hfin]; simp [stepG.apply, hr]))⟩
  · rename_i d w' hr
    refine ⟨_, w', h, .one (step_lone_go ?_)⟩
    have : ({ b.atR a (.inRegion ops (i :: rest) :: k) with defers := d :: a.defers } : Frame).finish undef = b.atR ({ a with defers := d :: a.defers }.put o.dst undef) (.inRegion ops rest :: k) := by
      have := Frame.finish_atR b { a with defers := d :: a.defers } ops i rest k undef
      rw [ho] at this; exact this
    rw [hg]; simp only [stepG.apply, Sem.runT_eq, hr, GStep.bare_after]
    exact congrArg (fun fr => GStep.go { frame := fr, callers := cs, status := .running, dying := none } w') this
  · rename_i f args w' hr
    obtain ⟨e, w'', fr, hR, hsteps, _, hleave⟩ := h (b.atR a (.inRegion ops (i :: rest) :: k) :: cs)
    have henter : Go.step P (lone (b.atR a (.inRegion ops (i :: rest) :: k)) cs w) = .next (lone (Frame.enter P f args .normal) (b.atR a (.inRegion ops (i :: rest) :: k) :: cs) w') :=
      step_lone_go (by rw [hg]; simp [stepG.apply, hr, Frame.atR])
    cases e with
    | returned v =>
      refine ⟨_, w'', hR, .head henter (hsteps.trans (.one ?_))⟩
      rw [← hfin]; exact step_leave_returned hleave
    | panicked chain => exact hR.elim
    | outgrown =>
      obtain ⟨_, _, hq⟩ := hR
      exact hq.elim
  · rename_i row args w' hr
    obtain ⟨v, w'', hR, hsteps⟩ := h (b.atR a (.inRegion ops (i :: rest) :: k)) cs
    have henter : Go.step P (lone (b.atR a (.inRegion ops (i :: rest) :: k)) cs w) = .next (lone (Frame.ofRow P row args .normal) (b.atR a (.inRegion ops (i :: rest) :: k) :: cs) w') :=
      step_lone_go (by rw [hg]; simp [stepG.apply, hr, Frame.atR])
    refine ⟨_, w'', hR, .head henter ?_⟩
    rw [← hfin]; exact hsteps
  · exact h.elim
  · exact h.elim
theorem opAct_nodefer {fr : Fr T} {o : Oper} {a : Ask T} (h : opAct E fr o = some a) : ∀ c, o.op ≠ .defer c := fun c hc => by
  unfold opAct at h
  rw [hc] at h
  cases h

/-! ### What a step leads to -/
def DGood (P : Program) (E : Env T) (c : Cfg T) (all : Array Oper) (rest : List Oper) (i base : Nat) (foot : List Foot) (k : List (Item T)) (v : V T) (st' : List (Ob T)) : Prop :=
  (∃ k', ItemsOk .top k k') → all.toList.drop i = rest → ∃ L fr1 st1, Run P E all c.n base (c.fr, c.st) L (fr1, st1) ∧ L.map (·.i) = List.range' i (all.size - i) ∧ (∀ l ∈ L, all[l.i]? = some l.o ∧ l.F.idx = l.i) ∧
    regOk all (foot ++ L.map (·.F)) = true ∧ Sound P E { c with todo := k, fr := fr1, st := st1 } v st'
def Good (P : Program) (E : Env T) (c : Cfg T) (v : V T) (st' : List (Ob T)) : Prop :=
  match c.todo with
  | [] => False
  | .dops all rest i base foot :: k => DGood P E c all rest i base foot k v st'
  | .don all o rest i base foot :: k => GYes all o c.fr → dstOk c.n o.dst = true → DGood P E c all (o :: rest) i base foot k v st'
  | .rounds r i :: k => HSound P E c r i k v st'
  | .head r i :: k => HSound P E c r i k v st'
  | .rin r i :: k => 0 < i → HSound P E c r i k v st'
  | _ => Sound P E c v st'
def NxGood (P : Program) (E : Env T) (v : V T) (st' : List (Ob T)) : Nx T → Prop
  | .go c => Good P E c v st'
  | .need b c => b = true ∧ Good P E c v st'
  | .br b c d => (b = true → Good P E c v st') ∧ (b = false → Good P E d v st')
  | .fork b c d => Good P E d v st' ∧ (b = true → Good P E c v st')
  | .call f args obs k => ∃ r obs', Callee P E f args obs r obs' ∧ Good P E (k r obs') v st'
  | .ret v1 st1 => v1 = v ∧ st1 = st'
  | .cut c => Good P E c v st'
  | .stuck => False
theorem Good.sound {c : Cfg T} {v : V T} {st' : List (Ob T)} (h : Good P E c v st') (hi : ∃ z k', ItemsOk z c.todo k') : Sound P E c v st' := by
  obtain ⟨z, k', hi⟩ := hi
  unfold Good at h
  cases hc : c.todo with
  | nil => rw [hc] at hi; cases hi
  | cons x k =>
    rw [hc] at hi h
    cases hi <;> exact h
theorem Good.on {c : Cfg T} {v : V T} {st' : List (Ob T)} {all : Array Oper} {o : Oper} {rest : List Oper} {k : List (Item T)} (h : Good P E c v st') (hc : c.todo = .on all o rest :: k) : Sound P E c v st' := by
  unfold Good at h
  rw [hc] at h
  exact h

/-! ### Operations of a region whose order is drawn -/
section
variable {c : Cfg T} {v : V T} {st' : List (Ob T)} {all : Array Oper} {o : Oper} {rest : List Oper} {k : List (Item T)} {i base : Nat} {foot : List Foot}
theorem DGood.cons {fr1 : Fr T} {st1 : List (Ob T)} {rd wr : List Nat} (h : Ex P E all c.n base (c.fr, c.st) ⟨i, o, footOf all o i rd wr⟩ (fr1, st1)) (hg : Good P E (dgo c all o rest k i base foot rd wr fr1 st1) v st') : DGood P E c all (o :: rest) i base foot k v st' := by
  intro hk hd
  have hil : i < all.size := by
    refine Nat.lt_of_not_le fun hle => ?_
    rw [List.drop_eq_nil_of_le (by simpa using hle)] at hd
    cases hd
  have hio : all[i]? = some o := by
    have : (all.toList.drop i)[0]? = some o := by rw [hd]; rfl
    rw [List.getElem?_drop] at this
    simpa using this
  have hrest : all.toList.drop (i + 1) = rest := by
    rw [← List.tail_drop, hd]
    rfl
  obtain ⟨L, fr2, st2, h1, h2, h3, h4, h5⟩ := (show DGood P E (dgo c all o rest k i base foot rd wr fr1 st1) all rest (i + 1) base (foot ++ [footOf all o i rd wr]) k v st' from hg) hk hrest
  refine ⟨⟨i, o, footOf all o i rd wr⟩ :: L, fr2, st2, .cons h h1, ?_, ?_, ?_, h5⟩
  · rw [List.map_cons, h2, show all.size - i = (all.size - (i + 1)) + 1 by omega, List.range'_succ]
  · intro l hl
    rcases List.mem_cons.1 hl with rfl | hl
    · exact ⟨hio, rfl⟩
    · exact h3 l hl
  · rw [List.map_cons]
    rw [List.append_assoc] at h4
    exact h4
theorem performD_good {a : Ask T} (ha : opAct E c.fr o = some a) (hy : GYes all o c.fr) (hdst : dstOk c.n o.dst = true) (h : NxGood P E v st' (performD E c all o rest k i base foot a)) : DGood P E c all (o :: rest) i base foot k v st' := by
  have one : ∀ {rd wr u st1}, Res P E (base + 4 * i) c.st a rd wr u st1 → Good P E (dgo c all o rest k i base foot rd wr (putO c.fr o.dst u) st1) v st' → DGood P E c all (o :: rest) i base foot k v st' := fun hr hg =>
    DGood.cons ⟨_, _, _, .inr ⟨hy, a, ha, hr⟩, rfl, hdst, fun _ => rfl⟩ hg
  cases a with
  | val u => exact one (.val u) h
  | need b u =>
    obtain ⟨rfl, h⟩ := h
    exact one (.need u) h
  | rd x f =>
    simp only [performD] at h
    split at h
    · rename_i b u hu
      obtain ⟨rfl, h⟩ := h
      exact one (.rd hu) h
    · exact h.elim
  | wr x f =>
    simp only [performD] at h
    split at h
    · rename_i b ob u hu
      obtain ⟨rfl, h⟩ := h
      exact one (.wr hu) h
    · rename_i b ob hu
      obtain ⟨rfl, h⟩ := h
      exact one (.wr hu) h
    · exact h.elim
  | new b ob mk =>
    simp only [performD] at h
    split at h
    · rename_i hd
      obtain ⟨rfl, h⟩ := h
      exact one (.new hd) h
    · exact h.elim
  | fork b u u' => exact h.elim
  | call f args =>
    simp only [performD] at h
    split at h
    · rename_i args1 st1 hn hh
      simp only [Bool.and_eq_true] at hn
      have hst := handOver_same hn.1 hh
      subst hst
      split at h
      · exact h.elim
      · rename_i ids args2 obs hp
        obtain ⟨r, obs', hc, hg⟩ := h
        dsimp only at hg
        split at hg
        · rename_i u obs2 haf hle
          exact one (.call hn.1 hn.2 hh hp hc haf (Nat.le_of_ble_eq_true hle)) hg
        · exact hg.elim
    · exact h.elim
end
end Go.Proofs.YtnenfgpjedddoaaGreat.AI
