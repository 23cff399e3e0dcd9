/- What slices.Backward returns: its shape. -/
import Derived.Test.YtnenfgpjedddoaaGreatAIReg
import Derived.AtR
import Derived.RangeFuncRecord
set_option linter.unusedVariables false
set_option linter.unusedSectionVars false
set_option linter.unusedSimpArgs false
namespace Go.Proofs.YtnenfgpjedddoaaGreat.AI
open Go

variable {K : Type} [DecidableEq K] {T : K → Type} {E : Env T} {P : Program}

def Shaped : OpShape → Op → Prop
  | .load t s, op => op = .load t (.tmp s)
  | .len t s, op => op = .call { callee := .builtin .len, args := #[.tmp s], argTypes := #[t] }
  | .sub s, op => ∃ t u, op = .binOp .sub t (.tmp s) (.const (.int .i64 1)) u
  | .mov s, op => op = .move (.tmp s) ∨ op = .assign (.tmp s)
  | .geq s, op => ∃ t u, op = .binOp .geq t (.tmp s) (.const (.int .i64 0)) u
  | .idx t x i, op => op = .indexAddr t (.tmp x) (.tmp i)
  | .yld, op => ∃ ts, op = .call { callee := .value (.tmp 11), args := #[.tmp 12, .tmp 16], argTypes := ts }
  | .not s, op => ∃ t, op = .unOp .not t (.tmp s)
theorem isTmp_spec {s : Nat} {x : Operand} (h : isTmp s x = true) : x = .tmp s := by
  cases x <;> simp only [isTmp, Bool.false_eq_true] at h
  rw [Nat.eq_of_beq_eq_true h]
theorem isInt_spec {v : Int} {x : Operand} (h : isInt v x = true) : x = .const (.int .i64 v) := by
  unfold isInt at h
  split at h
  · rw [of_decide_eq_true h]
  · cases h
theorem shapeB_spec {s : OpShape} {op : Op} (h : shapeB s op = true) : Shaped s op := by
  unfold shapeB at h
  split at h
  · simp only [Bool.and_eq_true] at h
    rw [Nat.eq_of_beq_eq_true h.1, isTmp_spec h.2]
    rfl
  · rename_i c
    split at h
    · rename_i h1 h2 h3
      simp only [Bool.and_eq_true] at h
      have ha : c.args = #[_] := Array.ext' h2
      have hb : c.argTypes = #[_] := Array.ext' h3
      obtain ⟨callee, args, ats⟩ := c
      dsimp only at h1 ha hb
      subst h1 ha hb
      rw [Nat.eq_of_beq_eq_true h.1, isTmp_spec h.2]
      rfl
    · cases h
  · simp only [Bool.and_eq_true] at h
    rw [isTmp_spec h.1, isInt_spec h.2]
    exact ⟨_, _, rfl⟩
  · rw [isTmp_spec h]; exact .inl rfl
  · rw [isTmp_spec h]; exact .inr rfl
  · simp only [Bool.and_eq_true] at h
    rw [isTmp_spec h.1, isInt_spec h.2]
    exact ⟨_, _, rfl⟩
  · simp only [Bool.and_eq_true] at h
    rw [Nat.eq_of_beq_eq_true h.1, isTmp_spec h.2.1, isTmp_spec h.2.2]
    rfl
  · rename_i c
    split at h
    · rename_i h1 h2
      simp only [Bool.and_eq_true] at h
      have ha : c.args = #[_, _] := Array.ext' h2
      obtain ⟨callee, args, ats⟩ := c
      dsimp only at h1 ha
      subst h1 ha
      rw [isTmp_spec h.1, isTmp_spec h.2.1, isTmp_spec h.2.2]
      exact ⟨_, rfl⟩
    · cases h
  · rw [isTmp_spec h]; exact ⟨_, rfl⟩
  · cases h
/-- These operations, one by one. -/
def Shapes (ss : List (Nat × OpShape)) (r : Array Oper) : Prop := r.size = ss.length ∧ ∀ (j d : Nat) (s : OpShape), ss[j]? = some (d, s) → ∃ o, r[j]? = some o ∧ o.dst = some d ∧ o.guard = none ∧ Shaped s o.op
theorem shapesB_spec : ∀ {ss : List (Nat × OpShape)} {os : List Oper}, shapesB ss os = true → os.length = ss.length ∧ ∀ (j d : Nat) (s : OpShape), ss[j]? = some (d, s) → ∃ o, os[j]? = some o ∧ o.dst = some d ∧ o.guard = none ∧ Shaped s o.op
  | [], [], _ => ⟨rfl, fun j d s h => by simp at h⟩
  | (d, s) :: ss, o :: os, h => by
    simp only [shapesB, Bool.and_eq_true] at h
    obtain ⟨h1, h2, h3, h4⟩ := h
    obtain ⟨k1, k2⟩ := shapesB_spec h4
    refine ⟨by simp [k1], fun j d' s' hj => ?_⟩
    cases j with
    | zero =>
      simp only [List.getElem?_cons_zero, Option.some.injEq, Prod.mk.injEq] at hj
      obtain ⟨rfl, rfl⟩ := hj
      refine ⟨o, rfl, ?_, by simpa using h2, shapeB_spec h3⟩
      unfold dstB at h1
      split at h1
      · rename_i hd; rw [hd, Nat.eq_of_beq_eq_true h1]
      · cases h1
    | succ j => exact k2 j d' s' (by simpa using hj)
  | [], _ :: _, h => by cases h
  | (_, _) :: _, [], h => by cases h
theorem shapes_of {ss : List (Nat × OpShape)} {r : Array Oper} (h : shapesB ss r.toList = true) : Shapes ss r := by
  obtain ⟨h1, h2⟩ := shapesB_spec h
  refine ⟨by simpa using h1, fun j d s hj => ?_⟩
  obtain ⟨o, h3, h4⟩ := h2 j d s hj
  exact ⟨o, by simpa using h3, h4⟩
structure BackFn (P : Program) (E : Env T) (G : Nat) (e : K) where
  fn : Func
  hfn : P.funcs[G]? = some fn
  name : fn.name ≠ "runtime.NumGoroutine"
  ts : Nat
  hts : E.ty ts = .slice e
  i0 : Nat
  i1 : Nat
  i2 : Nat
  i3 : Nat
  b0 : Nat
  b1 : Nat
  r0 : Array Oper
  r1 : Array Oper
  r2 : Array Oper
  r3 : Array Oper
  body : fn.body = some (.seq (.region i0 r0 false) (.block b0 (.loop (.seq (.seq (.region i1 r1 false) (.cond (.tmp 8) .skip (.exit b0))) (.seq (.block b1 (.seq (.region i3 r3 false) (.cond (.tmp 18) .ret .skip))) (.region i2 r2 false))))))
  ntmps : fn.ntmps = 19
  results : fn.results = #[]
  s0 : Shapes [(4, .load ts 1), (5, .len ts 4), (6, .sub 5), (3, .mov 6)] r0
  s1 : Shapes [(7, .mov 3), (8, .geq 7)] r1
  s3 : Shapes [(11, .mov 0), (12, .mov 3), (13, .load ts 1), (14, .mov 3), (15, .idx ts 13 14), (16, .load (E.num e) 15), (17, .yld), (18, .not 17)] r3
  s2 : Shapes [(9, .mov 3), (10, .sub 9), (3, .mov 10)] r2
theorem backB_spec {ts te : Nat} {fn : Func} (h : backB ts te fn = true) : ∃ i0 i1 i2 i3 b0 b1 r0 r1 r2 r3,
    fn.body = some (.seq (.region i0 r0 false) (.block b0 (.loop (.seq (.seq (.region i1 r1 false) (.cond (.tmp 8) .skip (.exit b0))) (.seq (.block b1 (.seq (.region i3 r3 false) (.cond (.tmp 18) .ret .skip))) (.region i2 r2 false)))))) ∧ fn.ntmps = 19 ∧ fn.results = #[] ∧
    Shapes [(4, .load ts 1), (5, .len ts 4), (6, .sub 5), (3, .mov 6)] r0 ∧ Shapes [(7, .mov 3), (8, .geq 7)] r1 ∧
    Shapes [(11, .mov 0), (12, .mov 3), (13, .load ts 1), (14, .mov 3), (15, .idx ts 13 14), (16, .load te 15), (17, .yld), (18, .not 17)] r3 ∧ Shapes [(9, .mov 3), (10, .sub 9), (3, .mov 10)] r2 := by
  unfold backB at h
  split at h
  · rename_i i0 r0 b0 i1 r1 c8 b b1 i3 r3 c18 i2 r2 hb
    simp only [Bool.and_eq_true, List.isEmpty_iff] at h
    obtain ⟨⟨⟨⟨⟨⟨⟨⟨h1, h2⟩, h3⟩, h4⟩, h5⟩, h6⟩, h7⟩, h8⟩, h9⟩ := h
    have e1 := Nat.eq_of_beq_eq_true h1
    have e2 := isTmp_spec h2
    have e3 := isTmp_spec h3
    subst e1 e2 e3
    exact ⟨i0, i1, i2, i3, _, b1, r0, r1, r2, r3, hb, Nat.eq_of_beq_eq_true h4, Array.ext' (by simpa using h5), shapes_of h6, shapes_of h7, shapes_of h8, shapes_of h9⟩
  · cases h
theorem back_spec (hE : EnvOk P E) {G : Nat} {e : K} (h : E.back G = some e) : Nonempty (BackFn P E G e) := by
  have h := hE.back G e h
  unfold isBack at h
  split at h
  · rename_i fn hfn
    split at h
    · split at h
      · split at h
        · split at h
          · rename_i hty
            simp only [Bool.and_eq_true, decide_eq_true_eq] at h
            obtain ⟨rfl, h⟩ := h
            obtain ⟨hp, hn⟩ := hE.fns G fn hfn
            obtain ⟨i0, i1, i2, i3, b0, b1, r0, r1, r2, r3, k1, k2, k3, k4, k5, k6, k7⟩ := backB_spec h
            exact ⟨⟨fn, hp, hn, _, hty, i0, i1, i2, i3, b0, b1, r0, r1, r2, r3, k1, k2, k3, k4, k5, k6, k7⟩⟩
          · cases h
        · cases h
      · cases h
    · cases h
  · cases h
end Go.Proofs.YtnenfgpjedddoaaGreat.AI

/- The abstract interpreter is right: what it gives is what the program gives. -/
set_option linter.unusedVariables false
set_option linter.unusedSectionVars false
set_option linter.unusedSimpArgs false
namespace Go.Proofs.YtnenfgpjedddoaaGreat.AI
open Go

variable {K : Type} [DecidableEq K] {T : K → Type}

/-- Runs: X are the functions whose doings are known. -/
inductive Runs (E : Env T) (X : Nat → List (V T) → List (Ob T) → V T → List (Ob T) → Prop) : Cfg T → V T → List (Ob T) → Prop
  | go {c c' v st} (h : step E c = .go c') (k : Runs E X c' v st) : Runs E X c v st
  | need {c c' v st} (h : step E c = .need true c') (k : Runs E X c' v st) : Runs E X c v st
  | br {c b c' d' v st} (h : step E c = .br b c' d') (kt : b = true → Runs E X c' v st) (kf : b = false → Runs E X d' v st) : Runs E X c v st
  | fork {c b c' d' v st} (h : step E c = .fork b c' d') (kd : Runs E X d' v st) (kc : b = true → Runs E X c' v st) : Runs E X c v st
  | ext {c f args obs k r obs' v st} (h : step E c = .call f args obs k) (hx : X f args obs r obs') (hk : Runs E X (k r obs') v st) : Runs E X c v st
  | enter {c f args obs k e r obs' v st} (h : step E c = .call f args obs k) (he : entry E f args obs = some e) (hr : Runs E X e r obs') (hk : Runs E X (k r obs') v st) : Runs E X c v st
  | ret {c v st} (h : step E c = .ret v st) : Runs E X c v st
  | cut {c c' v st} (h : step E c = .cut c') (k : Runs E X c' v st) : Runs E X c v st

variable {E : Env T} {P : Program}

/-- In whose frame the machine is: the function's own, or a round's of a loop over a function, ahead of its body or in it. -/
inductive Zn {K : Type} (T : K → Type) where
  | top
  | pre (r : Rnd T) (fr : Fr T) (i : Nat) (k : List (Item T))
  | rnd (r : Rnd T) (fr : Fr T) (i : Nat) (k : List (Item T))
inductive ItemsOk : Zn T → List (Item T) → List Go.Item → Prop
  | bot : ItemsOk .top [.code .ret] []
  | pre {r fr i k} : ItemsOk (.pre r fr i k) (.begin :: .code r.body :: .rend r fr i :: k) [.beginRound, .code r.body]
  | rnd {r fr i k} : ItemsOk (.rnd r fr i k) (.rend r fr i :: k) []
  | code {z c k k'} (h : ItemsOk z k k') : ItemsOk z (.code c :: k) (.code c :: k')
  | reg {z id ops draw k k'} (h : ItemsOk z k k') : ItemsOk z (.reg id ops draw :: k) (.code (.region id ops draw) :: k')
  | inBlock {z id k k'} (h : ItemsOk z k k') : ItemsOk z (.inBlock id :: k) (.inBlock id :: k')
  | inLoop {z body slots k k'} (h : ItemsOk z k k') : ItemsOk z (.inLoop body slots :: k) (.inLoop body :: k')
  | ops {z} {all : Array Oper} {rest k k' i} (hd : all.toList.drop i = rest) (h : ItemsOk z k k') : ItemsOk z (.ops all rest :: k) (.inRegion all (List.range' i (all.size - i)) :: k')
theorem ItemsOk.exitTo {z : Zn T} {id : Nat} : ∀ {k : List (Item T)} {k' : List Go.Item} {r : List (Item T)}, ItemsOk z k k' → AI.exitTo id k = some r → ∃ r', Go.exitTo id k' = some r' ∧ ItemsOk z r r'
  | _, _, r, .bot, h => by simp [AI.exitTo] at h
  | _, _, r, .pre, h => by simp [AI.exitTo] at h
  | _, _, r, .rnd, h => by simp [AI.exitTo] at h
  | _, _, r, .reg hk, h => by simpa [AI.exitTo, Go.exitTo] using ItemsOk.exitTo hk (by simpa [AI.exitTo] using h)
  | _, _, r, .code hk, h => by simpa [AI.exitTo, Go.exitTo] using ItemsOk.exitTo hk (by simpa [AI.exitTo] using h)
  | _, _, r, .inBlock (id := j) hk, h => by
    simp only [AI.exitTo] at h
    split at h
    · rename_i hb
      have := Nat.eq_of_beq_eq_true hb
      subst this
      simp only [Option.some.injEq] at h
      subst h
      exact ⟨_, by simp [Go.exitTo], hk⟩
    · rename_i hb
      have hne : j ≠ id := fun e => by
        subst e
        have := Nat.beq_refl j
        rw [hb] at this; cases this
      obtain ⟨r', h1, h2⟩ := ItemsOk.exitTo hk h
      exact ⟨r', by simp [Go.exitTo, hne, h1], h2⟩
  | _, _, r, .inLoop hk, h => by simpa [AI.exitTo, Go.exitTo] using ItemsOk.exitTo hk (by simpa [AI.exitTo] using h)
  | _, _, r, .ops hd hk, h => by simpa [AI.exitTo, Go.exitTo] using ItemsOk.exitTo hk (by simpa [AI.exitTo] using h)
/-- An exit that leaves the round. -/
theorem ItemsOk.exitOut {id : Nat} {r : Rnd T} {fr : Fr T} {i : Nat} {kF : List (Item T)} : ∀ {k : List (Item T)} {k' : List Go.Item}, ItemsOk (.rnd r fr i kF) k k' → AI.exitTo id k = none → Go.exitTo id k' = none
  | _, _, .rnd, _ => by simp [Go.exitTo]
  | _, _, .reg hk, h => by simpa [Go.exitTo] using ItemsOk.exitOut hk (by simpa [AI.exitTo] using h)
  | _, _, .code hk, h => by simpa [Go.exitTo] using ItemsOk.exitOut hk (by simpa [AI.exitTo] using h)
  | _, _, .inBlock (id := j) hk, h => by
    simp only [AI.exitTo] at h
    split at h
    · cases h
    · rename_i hb
      have hne : j ≠ id := fun e => by
        subst e
        have := Nat.beq_refl j
        rw [hb] at this; cases this
      simp [Go.exitTo, hne, ItemsOk.exitOut hk h]
  | _, _, .inLoop hk, h => by simpa [Go.exitTo] using ItemsOk.exitOut hk (by simpa [AI.exitTo] using h)
  | _, _, .ops hd hk, h => by simpa [Go.exitTo] using ItemsOk.exitOut hk (by simpa [AI.exitTo] using h)
def Zn.zk : Zn T → Zk T
  | .top => .top
  | .pre .. => .pre
  | .rnd r fr i k => .rnd r fr i k
theorem ItemsOk.zone {z : Zn T} : ∀ {k : List (Item T)} {k' : List Go.Item}, ItemsOk z k k' → zoneOf k = z.zk
  | _, _, .bot => rfl
  | _, _, .pre => rfl
  | _, _, .rnd => rfl
  | _, _, .reg hk => by simpa [zoneOf] using hk.zone
  | _, _, .code hk => by simpa [zoneOf] using hk.zone
  | _, _, .inBlock hk => by simpa [zoneOf] using hk.zone
  | _, _, .inLoop hk => by simpa [zoneOf] using hk.zone
  | _, _, .ops hd hk => by simpa [zoneOf] using hk.zone
theorem ItemsOk.top {z : Zn T} {k : List (Item T)} {k' : List Go.Item} (h : ItemsOk z k k') (ht : zoneOf k = .top) : z = .top := by
  rw [h.zone] at ht
  cases z <;> first | rfl | cases ht

/-- What stands ahead, an operation whose guard has spoken among it. -/
inductive Top (z : Zn T) (c : Cfg T) : List Go.Item → Prop
  | items {todo} (h : ItemsOk z c.todo todo) : Top z c todo
  | on {all : Array Oper} {o rest k k' i} (hc : c.todo = .on all o rest :: k) (ho : all[i]? = some o) (hd : all.toList.drop (i + 1) = rest) (hdst : dstOk c.n o.dst = true) (hg : GYes all o c.fr) (h : ItemsOk z k k') :
      Top z c (.inRegion all (i :: List.range' (i + 1) (all.size - (i + 1))) :: k')
def bf (f : Nat) : Frame := { (default : Frame) with fn := f, kind := .normal }
/-- The marks of loops that are over, or on. -/
def marks (rs : List Nat) : List Deferred := rs.map fun r => { target := .collected r, args := #[] }
structure MarksOk (g : Gh) (w w0 : World) (rs : List Nat) : Prop where
  nodup : rs.Nodup
  each : ∀ r ∈ rs, w0.heap.size ≤ r ∧ ¬ g.owns r ∧ w.heap[r]? = some (.deferred (some []))
theorem owns_new {g g1 : Gh} {w w1 : World} (he : Ext g g1 w w1) {b : Nat} {o : Obj} (hb : w.heap[b]? = some o) (hn : ¬ g.owns b) : ¬ g1.owns b ∧ w1.heap[b]? = some o := by
  have hlt := heap_lt hb
  refine ⟨fun h => ?_, (he.keeps b hlt hn).1.trans hb⟩
  rcases he.own b h with h | h
  · exact hn h
  · omega
theorem MarksOk.mono {g g1 : Gh} {w w1 w0 : World} {rs : List Nat} (h : MarksOk g w w0 rs) (he : Ext g g1 w w1) : MarksOk g1 w1 w0 rs :=
  ⟨h.nodup, fun r hr => let ⟨a, b, c⟩ := h.each r hr; let ⟨d, e⟩ := owns_new he c b; ⟨a, d, e⟩⟩
/-- A block that is none of ours, and no cells, may turn. -/
theorem Inv.putObj {g : Gh} {st : List (Ob T)} {w : World} (hi : Inv E g st w) {b : Nat} {o o' : Obj} (hn : ¬ g.owns b) (ho : w.heap[b]? = some o) (hc : ∀ x t f, o ≠ .cells x t f) : Inv E g st (w.putObj b o') := by
  have hcell : ∀ b' off v, g.G b' off = some v → b' ≠ b := fun b' off v hg e => by
    subst e
    have := hi.froz _ _ _ hg
    unfold World.cell? at this
    rw [ho] at this
    cases o <;> first | (cases this; done) | exact absurd rfl (hc _ _ _)
  refine ⟨fun b' off v hg => ?_, hi.len, fun i ob l h1 h2 => ?_, hi.apart, hi.glob, hi.ints⟩
  · exact (cell?_block (World.putObj_heap_other (hcell b' off v hg)) off).trans (hi.froz b' off v hg)
  · refine (hi.obs i ob l h1 h2).mono (.refl g) (by simp) fun b' hb' => ⟨World.putObj_heap_other fun e => hn ?_, fun _ => rfl⟩
    subst e
    exact ⟨i, l, h2, hb'⟩
theorem Ext.putObj {g0 g : Gh} {w0 w : World} (he : Ext g0 g w0 w) {b : Nat} (o : Obj) (hb : w0.heap.size ≤ b) : Ext g0 g w0 (w.putObj b o) := by
  refine ⟨he.G, he.os, he.tape, he.output, by simpa using he.size, fun b' h1 h2 => ?_, he.own⟩
  obtain ⟨k1, k2⟩ := he.keeps b' h1 h2
  exact ⟨(World.putObj_heap_other (by omega)).trans k1, k2⟩
theorem MarksOk.putObj {g : Gh} {w w0 : World} {rs : List Nat} (h : MarksOk g w w0 rs) {b : Nat} {o : Obj} (hb : b ∉ rs) : MarksOk g (w.putObj b o) w0 rs :=
  ⟨h.nodup, fun r hr => let ⟨a, c, d⟩ := h.each r hr; ⟨a, c, (World.putObj_heap_other (fun e => by subst e; exact hb hr)).trans d⟩⟩
theorem Inv.alloc {g : Gh} {st : List (Ob T)} {w : World} (hi : Inv E g st w) (o : Obj) : Inv E g st (w.alloc o) ∧ Ext g g w (w.alloc o) := by
  have := Inv.grow (G' := g.G) (w' := w.alloc o) hi (.refl _) (fun b off v hg => ?_) rfl rfl rfl (by simp) (fun b hb => ⟨?_, fun _ => rfl⟩)
  · exact ⟨this.1, this.2.1⟩
  · have hlt := hi.glt hg
    exact (cell?_block (RowKit.Below.heap_alloc w o b hlt) off).trans (hi.froz b off v hg)
  · exact RowKit.Below.heap_alloc w o b hb
/-- A frame that returns takes over what its loops have left: nothing. -/
theorem unwind_marks {st : List (Ob T)} {g0 g : Gh} {w0 : World} {cs : List Frame} : ∀ (rs : List Nat) {w : World} {fr : Frame}, Inv E g st w → MarksOk g w w0 rs → Ext g0 g w0 w → fr.mode = .returning → fr.defers = marks rs →
    ∃ w', Steps P (lone fr cs w) (lone { fr with defers := [] } cs w') ∧ Inv E g st w' ∧ Ext g0 g w0 w'
  | [], w, fr, hi, hm, he, hmode, hd => ⟨w, by
      have : { fr with defers := [] } = fr := by
        cases fr; simp only at hd; subst hd; rfl
      rw [this]; exact .refl _ _, hi, he⟩
  | r :: rs, w, fr, hi, hm, he, hmode, hd => by
    obtain ⟨h1, h2, h3⟩ := hm.each r (List.mem_cons_self ..)
    have hs := step_collected (P := P) (cs := cs) (fr := fr) (w := w) (by rw [hmode]; simp) hd rfl (run_takeDeferred h3)
    have hnd := List.nodup_cons.1 hm.nodup
    obtain ⟨w', k1, k2, k3⟩ := unwind_marks rs (w := w.putObj r (.deferred none)) (fr := { fr with defers := [] ++ marks rs }) (cs := cs) (hi.putObj h2 h3 (fun _ _ _ h => by cases h))
      (MarksOk.putObj ⟨hnd.2, fun r' hr' => hm.each r' (List.mem_cons_of_mem _ hr')⟩ hnd.1) (he.putObj _ h1) hmode rfl
    exact ⟨w', .head hs k1, k2, k3⟩

/-- A loop over a function, as the machine keeps it. -/
structure LoopOk (P : Program) (E : Env T) (fn n : Nat) (g : Gh) (w w0 : World) (r : Rnd T) (fr0 : Fr T) (k : List (Item T)) (s : LoopState) (l : Nat) (rs : List Nat) (tmps0 : Array Value) (k' : List Go.Item) : Prop where
  items : ItemsOk .top k k'
  fr : FrOk E g fr0 tmps0
  size : n ≤ tmps0.size
  marks : MarksOk g w w0 rs
  new : w0.heap.size ≤ l
  own : ¬ g.owns l
  record : ∃ d, w.heap[l]? = some (.loop { state := s, pending := none, fn, tmps := tmps0, params := #[r.p, r.q], assign := r.assign, body := r.body, defers := d })
theorem LoopOk.mono {fn n : Nat} {g g1 : Gh} {w w1 w0 : World} {r : Rnd T} {fr0 : Fr T} {k : List (Item T)} {s : LoopState} {l : Nat} {rs : List Nat} {tmps0 : Array Value} {k' : List Go.Item} (h : LoopOk P E fn n g w w0 r fr0 k s l rs tmps0 k') (he : Ext g g1 w w1) (hl : g.Le g1) :
    LoopOk P E fn n g1 w1 w0 r fr0 k s l rs tmps0 k' := by
  obtain ⟨d, hd⟩ := h.record
  obtain ⟨a, b⟩ := owns_new he hd h.own
  exact ⟨h.items, h.fr.mono hl, h.size, h.marks.mono he, h.new, a, d, b⟩
structure GOk (E : Env T) (g : Gh) (r : Rnd T) (i l : Nat) (tG : Array Value) : Prop where
  size : tG.size = 19
  yld : tG[0]? = some (.func (.yield l) #[] #[])
  fr : FrOk E g [(1, some r.cap), (3, some (.int .i64 ((i : Int) - 1)))] tG
  small : i < 4611686018427387904
theorem GOk.mono {g g1 : Gh} {r : Rnd T} {i l : Nat} {tG : Array Value} (h : GOk E g r i l tG) (hl : g.Le g1) : GOk E g1 r i l tG := ⟨h.size, h.yld, h.fr.mono hl, h.small⟩
def BackFn.loopBody {G : Nat} {e : K} (B : BackFn P E G e) : Code := .seq (.seq (.region B.i1 B.r1 false) (.cond (.tmp 8) .skip (.exit B.b0))) (.seq (.block B.b1 (.seq (.region B.i3 B.r3 false) (.cond (.tmp 18) .ret .skip))) (.region B.i2 B.r2 false))
/-- The loop's own frame, while it runs. -/
def FF (fn : Nat) (rs : List Nat) (tmps0 : Array Value) (l : Nat) (k' : List Go.Item) : Frame := (bf fn).atR ⟨tmps0, marks rs⟩ (.inRangeFunc l :: k')
/-- The frame of what slices.Backward returned, in its call of yield. -/
def FG {G : Nat} {e : K} (B : BackFn P E G e) (tG : Array Value) : Frame := (bf G).atR ⟨tG, []⟩ (.inRegion B.r3 [6, 7] :: [.code (.cond (.tmp 18) .ret .skip), .inBlock B.b1, .code (.region B.i2 B.r2 false), .inLoop B.loopBody, .inBlock B.b0])
/-- And at its loop's head. -/
def FH {G : Nat} {e : K} (B : BackFn P E G e) (tG : Array Value) : Frame := (bf G).atR ⟨tG, []⟩ [.code B.loopBody, .inLoop B.loopBody, .inBlock B.b0]
structure Zone {K : Type} (T : K → Type) where
  b : Frame
  ds : List Deferred
  above : List Frame
  kind : Zn T
  g0 : Gh
  w0 : World
def Zone.at (Z : Zone T) (tmps : Array Value) (todo : List Go.Item) (w : World) (cs : List Frame) : Machine := lone (Z.b.atR ⟨tmps, Z.ds⟩ todo) (Z.above ++ cs) w
def InRound (P : Program) (E : Env T) (fn n : Nat) (g : Gh) (w : World) (Z : Zone T) (r : Rnd T) (fr0 : Fr T) (i : Nat) (k : List (Item T)) (s : LoopState) : Prop :=
  ∃ (l : Nat) (rs : List Nat) (tmps0 : Array Value) (k' : List Go.Item) (G : Nat) (tG : Array Value) (B : BackFn P E G r.e), Z.b = { bf fn with roundOf := some l } ∧ Z.ds = [] ∧ Z.above = [FG B tG, FF fn rs tmps0 l k'] ∧
    LoopOk P E fn n g w Z.w0 r fr0 k s l rs tmps0 k' ∧ GOk E g r i l tG ∧ 0 < i
def Zone.Ok (P : Program) (E : Env T) (fn n : Nat) (g : Gh) (w : World) (Z : Zone T) : Prop :=
  match Z.kind with
  | .top => ∃ rs, Z.b = bf fn ∧ Z.ds = marks rs ∧ Z.above = [] ∧ MarksOk g w Z.w0 rs
  | .pre r fr0 i k => InRound P E fn n g w Z r fr0 i k .ready
  | .rnd r fr0 i k => InRound P E fn n g w Z r fr0 i k .busy
theorem InRound.mono {fn n : Nat} {g g1 : Gh} {w w1 : World} {Z : Zone T} {r : Rnd T} {fr0 : Fr T} {i : Nat} {k : List (Item T)} {s : LoopState} (h : InRound P E fn n g w Z r fr0 i k s) (he : Ext g g1 w w1) (hl : g.Le g1) : InRound P E fn n g1 w1 Z r fr0 i k s := by
  obtain ⟨l, rs, tmps0, k', G, tG, B, h1, h2, h3, h4, h5, h6⟩ := h
  exact ⟨l, rs, tmps0, k', G, tG, B, h1, h2, h3, h4.mono he hl, h5.mono hl, h6⟩
theorem Zone.Ok.mono {fn n : Nat} {g g1 : Gh} {w w1 : World} {Z : Zone T} (h : Z.Ok P E fn n g w) (he : Ext g g1 w w1) (hl : g.Le g1) : Z.Ok P E fn n g1 w1 := by
  unfold Zone.Ok at h ⊢
  split at h
  · obtain ⟨rs, h1, h2, h3, h4⟩ := h
    exact ⟨rs, h1, h2, h3, h4.mono he⟩
  · exact InRound.mono h he hl
  · exact InRound.mono h he hl
theorem Zone.Ok.fn {fn n : Nat} {g : Gh} {w : World} {Z : Zone T} (h : Z.Ok P E fn n g w) : Z.b.fn = fn ∧ Z.b.kind = .normal := by
  unfold Zone.Ok at h
  split at h
  · obtain ⟨rs, h1, _⟩ := h; rw [h1]; exact ⟨rfl, rfl⟩
  · obtain ⟨l, rs, tmps0, k', G, tG, B, h1, _⟩ := h; rw [h1]; exact ⟨rfl, rfl⟩
  · obtain ⟨l, rs, tmps0, k', G, tG, B, h1, _⟩ := h; rw [h1]; exact ⟨rfl, rfl⟩
/-- The machine is where the interpreter is. -/
structure Sim (P : Program) (E : Env T) (Z : Zone T) (c : Cfg T) (g : Gh) (w : World) (tmps : Array Value) (todo : List Go.Item) : Prop where
  inv : Inv E g c.st w
  fr : FrOk E g c.fr tmps
  size : c.n ≤ tmps.size
  top : Top Z.kind c todo
  fnOk : ∃ fn, P.funcs[c.fn]? = some fn ∧ c.res = fn.results.toList
  zone : Z.Ok P E c.fn c.n g w
  ext : Ext Z.g0 g Z.w0 w
  kin : KinTo c.keep Z.g0 g
def Ends (P : Program) (E : Env T) (m : List Frame → Machine) (fn keep : Nat) (g0 : Gh) (w0 : World) (v : V T) (st' : List (Ob T)) : Prop :=
  ∀ cs, ∃ fr' w' g' x, Steps P (m cs) (lone fr' cs w') ∧ fr'.fn = fn ∧ fr'.leaving P w' (.returned x) ∧ Inv E g' st' w' ∧ Ext g0 g' w0 w' ∧ KinTo keep g0 g' ∧ Rep E g' v x
def Sound (P : Program) (E : Env T) (c : Cfg T) (v : V T) (st' : List (Ob T)) : Prop := ∀ Z g w tmps todo, Sim P E Z c g w tmps todo → Ends P E (Z.at tmps todo w) c.fn c.keep Z.g0 Z.w0 v st'
/-- At a loop's head: what slices.Backward returned is ahead of a round, or at its end. -/
structure HSim (P : Program) (E : Env T) (c : Cfg T) (r : Rnd T) (i : Nat) (k : List (Item T)) (g : Gh) (w : World) (g0 : Gh) (w0 : World) (m : List Frame → Machine) : Prop where
  inv : Inv E g c.st w
  fnOk : ∃ fn, P.funcs[c.fn]? = some fn ∧ c.res = fn.results.toList
  ext : Ext g0 g w0 w
  kin : KinTo c.keep g0 g
  loop : ∃ (l : Nat) (rs : List Nat) (tmps0 : Array Value) (k' : List Go.Item) (G : Nat) (tG : Array Value) (B : BackFn P E G r.e), m = (fun cs => lone (FH B tG) (FF c.fn rs tmps0 l k' :: cs) w) ∧ LoopOk P E c.fn c.n g w w0 r c.fr k .ready l rs tmps0 k' ∧ GOk E g r i l tG
def HSound (P : Program) (E : Env T) (c : Cfg T) (r : Rnd T) (i : Nat) (k : List (Item T)) (v : V T) (st' : List (Ob T)) : Prop := ∀ g w g0 w0 m, HSim P E c r i k g w g0 w0 m → Ends P E m c.fn c.keep g0 w0 v st'

theorem Ends.next {m m1 : List Frame → Machine} {fn fn1 keep keep1 : Nat} {g0 : Gh} {w0 : World} {v : V T} {st' : List (Ob T)} (hs : ∀ cs, Steps P (m cs) (m1 cs)) (hfn : fn1 = fn) (hkeep : keep1 = keep) (h : Ends P E m1 fn1 keep1 g0 w0 v st') : Ends P E m fn keep g0 w0 v st' := fun cs => by
  subst hfn hkeep
  obtain ⟨fr', w', g', x, h1, h2⟩ := h cs
  exact ⟨fr', w', g', x, (hs cs).trans h1, h2⟩

/-- One operation of a region, by its 'wp'. -/
theorem one_op {b : Frame} {a : Act} {k : List Go.Item} {w : World} {ops : Array Oper} {i : Nat} {rest : List Nat} {o : Oper} (ho : ops[i]? = some o) (hw : Region.wanted o (yielded ops a.tmps) = true) (hd : ∀ c, o.op ≠ .defer c) {R : Act → World → Prop}
    (h : o.wp P a w R (fun _ _ _ => False)) (cs : List Frame) :
    ∃ a' w', R a' w' ∧ Steps P (lone (b.atR a (.inRegion ops (i :: rest) :: k)) cs w) (lone (b.atR a' (.inRegion ops rest :: k)) cs w') := by
  have hg := stepGR_op (P := P) (b := b) (k := k) (cs := cs) (w := w) (rest := rest) ho hw
  rw [Oper.semAt_eq _ _ _ hd] at hg
  have hfin : ∀ v, (b.atR a (.inRegion ops (i :: rest) :: k)).finish v = b.atR (a.put o.dst v) (.inRegion ops rest :: k) := by
    intro v; rw [Frame.finish_atR, ho]; rfl
  simp only [Oper.wp, Oper.upon] at h
  split at h
  · rename_i v w' hr
    exact ⟨_, w', h, .one (step_lone_go (by rw [hg, ← hfin]; simp [stepG.apply, hr]))⟩
  · rename_i w' hr
    exact ⟨_, w', h, .one (step_lone_go (by rw [hg, ← hfin]; simp [stepG.apply, hr]))⟩
  · rename_i d w' hr
    refine ⟨_, w', h, .one (step_lone_go ?_)⟩
    have : ({ b.atR a (.inRegion ops (i :: rest) :: k) with defers := d :: a.defers } : Frame).finish undef = b.atR ({ a with defers := d :: a.defers }.put o.dst undef) (.inRegion ops rest :: k) := by
      have := Frame.finish_atR b { a with defers := d :: a.defers } ops i rest k undef
      rw [ho] at this; exact this
    rw [hg]; simp only [stepG.apply, Sem.runT_eq, hr, GStep.bare_after]
    exact congrArg (fun fr => GStep.go { frame := fr, callers := cs, status := .running, dying := none } w') this
  · rename_i f args w' hr
    obtain ⟨e, w'', fr, hR, hsteps, _, hleave⟩ := h (b.atR a (.inRegion ops (i :: rest) :: k) :: cs)
    have henter : Go.step P (lone (b.atR a (.inRegion ops (i :: rest) :: k)) cs w) = .next (lone (Frame.enter P f args .normal) (b.atR a (.inRegion ops (i :: rest) :: k) :: cs) w') :=
      step_lone_go (by rw [hg]; simp [stepG.apply, hr, Frame.atR])
    cases e with
    | returned v =>
      refine ⟨_, w'', hR, .head henter (hsteps.trans (.one ?_))⟩
      rw [← hfin]; exact step_leave_returned hleave
    | panicked chain => exact hR.elim
    | outgrown =>
      obtain ⟨_, _, hq⟩ := hR
      exact hq.elim
  · rename_i row args w' hr
    obtain ⟨v, w'', hR, hsteps⟩ := h (b.atR a (.inRegion ops (i :: rest) :: k)) cs
    have henter : Go.step P (lone (b.atR a (.inRegion ops (i :: rest) :: k)) cs w) = .next (lone (Frame.ofRow P row args .normal) (b.atR a (.inRegion ops (i :: rest) :: k) :: cs) w') :=
      step_lone_go (by rw [hg]; simp [stepG.apply, hr, Frame.atR])
    refine ⟨_, w'', hR, .head henter ?_⟩
    rw [← hfin]; exact hsteps
  · exact h.elim
  · exact h.elim
theorem opAct_nodefer {fr : Fr T} {o : Oper} {a : Ask T} (h : opAct E fr o = some a) : ∀ c, o.op ≠ .defer c := fun c hc => by
  unfold opAct at h
  rw [hc] at h
  cases h

/-! ### What a step leads to -/
def DGood (P : Program) (E : Env T) (c : Cfg T) (all : Array Oper) (rest : List Oper) (i base : Nat) (foot : List Foot) (k : List (Item T)) (v : V T) (st' : List (Ob T)) : Prop :=
  (∃ k', ItemsOk .top k k') → all.toList.drop i = rest → ∃ L fr1 st1, Run P E all c.n base (c.fr, c.st) L (fr1, st1) ∧ L.map (·.i) = List.range' i (all.size - i) ∧ (∀ l ∈ L, all[l.i]? = some l.o ∧ l.F.idx = l.i) ∧
    regOk all (foot ++ L.map (·.F)) = true ∧ Sound P E { c with todo := k, fr := fr1, st := st1 } v st'
def Good (P : Program) (E : Env T) (c : Cfg T) (v : V T) (st' : List (Ob T)) : Prop :=
  match c.todo with
  | [] => False
  | .dops all rest i base foot :: k => DGood P E c all rest i base foot k v st'
  | .don all o rest i base foot :: k => GYes all o c.fr → dstOk c.n o.dst = true → DGood P E c all (o :: rest) i base foot k v st'
  | .rounds r i :: k => HSound P E c r i k v st'
  | .head r i :: k => HSound P E c r i k v st'
  | .rin r i :: k => 0 < i → HSound P E c r i k v st'
  | _ => Sound P E c v st'
def NxGood (P : Program) (E : Env T) (v : V T) (st' : List (Ob T)) : Nx T → Prop
  | .go c => Good P E c v st'
  | .need b c => b = true ∧ Good P E c v st'
  | .br b c d => (b = true → Good P E c v st') ∧ (b = false → Good P E d v st')
  | .fork b c d => Good P E d v st' ∧ (b = true → Good P E c v st')
  | .call f args obs k => ∃ r obs', Callee P E f args obs r obs' ∧ Good P E (k r obs') v st'
  | .ret v1 st1 => v1 = v ∧ st1 = st'
  | .cut c => Good P E c v st'
  | .stuck => False
theorem Good.sound {c : Cfg T} {v : V T} {st' : List (Ob T)} (h : Good P E c v st') (hi : ∃ z k', ItemsOk z c.todo k') : Sound P E c v st' := by
  obtain ⟨z, k', hi⟩ := hi
  unfold Good at h
  cases hc : c.todo with
  | nil => rw [hc] at hi; cases hi
  | cons x k =>
    rw [hc] at hi h
    cases hi <;> exact h
theorem Good.on {c : Cfg T} {v : V T} {st' : List (Ob T)} {all : Array Oper} {o : Oper} {rest : List Oper} {k : List (Item T)} (h : Good P E c v st') (hc : c.todo = .on all o rest :: k) : Sound P E c v st' := by
  unfold Good at h
  rw [hc] at h
  exact h

/-! ### Operations of a region whose order is drawn -/
section
variable {c : Cfg T} {v : V T} {st' : List (Ob T)} {all : Array Oper} {o : Oper} {rest : List Oper} {k : List (Item T)} {i base : Nat} {foot : List Foot}
theorem DGood.cons {fr1 : Fr T} {st1 : List (Ob T)} {rd wr : List Nat} (h : Ex P E all c.n base (c.fr, c.st) ⟨i, o, footOf all o i rd wr⟩ (fr1, st1)) (hg : Good P E (dgo c all o rest k i base foot rd wr fr1 st1) v st') : DGood P E c all (o :: rest) i base foot k v st' := by
  intro hk hd
  have hil : i < all.size := by
    refine Nat.lt_of_not_le fun hle => ?_
    rw [List.drop_eq_nil_of_le (by simpa using hle)] at hd
    cases hd
  have hio : all[i]? = some o := by
    have : (all.toList.drop i)[0]? = some o := by rw [hd]; rfl
    rw [List.getElem?_drop] at this
    simpa using this
  have hrest : all.toList.drop (i + 1) = rest := by
    rw [← List.tail_drop, hd]
    rfl
  obtain ⟨L, fr2, st2, h1, h2, h3, h4, h5⟩ := (show DGood P E (dgo c all o rest k i base foot rd wr fr1 st1) all rest (i + 1) base (foot ++ [footOf all o i rd wr]) k v st' from hg) hk hrest
  refine ⟨⟨i, o, footOf all o i rd wr⟩ :: L, fr2, st2, .cons h h1, ?_, ?_, ?_, h5⟩
  · rw [List.map_cons, h2, show all.size - i = (all.size - (i + 1)) + 1 by omega, List.range'_succ]
  · intro l hl
    rcases List.mem_cons.1 hl with rfl | hl
    · exact ⟨hio, rfl⟩
    · exact h3 l hl
  · rw [List.map_cons]
    rw [List.append_assoc] at h4
    exact h4
theorem performD_good {a : Ask T} (ha : opAct E c.fr o = some a) (hy : GYes all o c.fr) (hdst : dstOk c.n o.dst = true) (h : NxGood P E v st' (performD E c all o rest k i base foot a)) : DGood P E c all (o :: rest) i base foot k v st' := by
  have one : ∀ {rd wr u st1}, Res P E (base + 4 * i) c.st a rd wr u st1 → Good P E (dgo c all o rest k i base foot rd wr (putO c.fr o.dst u) st1) v st' → DGood P E c all (o :: rest) i base foot k v st' := fun hr hg =>
    DGood.cons ⟨_, _, _, .inr ⟨hy, a, ha, hr⟩, rfl, hdst, fun _ => rfl⟩ hg
  cases a with
  | val u => exact one (.val u) h
  | need b u =>
    obtain ⟨rfl, h⟩ := h
    exact one (.need u) h
  | rd x f =>
    simp only [performD] at h
    split at h
    · rename_i b u hu
      obtain ⟨rfl, h⟩ := h
      exact one (.rd hu) h
    · exact h.elim
  | wr x f =>
    simp only [performD] at h
    split at h
    · rename_i b ob u hu
      obtain ⟨rfl, h⟩ := h
      exact one (.wr hu) h
    · rename_i b ob hu
      obtain ⟨rfl, h⟩ := h
      exact one (.wr hu) h
    · exact h.elim
  | new b ob mk =>
    simp only [performD] at h
    split at h
    · rename_i hd
      obtain ⟨rfl, h⟩ := h
      exact one (.new hd) h
    · exact h.elim
  | fork b u u' => exact h.elim
  | call f args =>
    simp only [performD] at h
    split at h
    · rename_i args1 st1 hn hh
      simp only [Bool.and_eq_true] at hn
      have hst := handOver_same hn.1 hh
      subst hst
      split at h
      · exact h.elim
      · rename_i ids args2 obs hp
        obtain ⟨r, obs', hc, hg⟩ := h
        dsimp only at hg
        split at hg
        · rename_i u obs2 haf hle
          exact one (.call hn.1 hn.2 hh hp hc haf (Nat.le_of_ble_eq_true hle)) hg
        · exact hg.elim
    · exact h.elim
end
end Go.Proofs.YtnenfgpjedddoaaGreat.AI

/- The abstract interpreter is right: each step. -/
set_option linter.unusedVariables false
set_option linter.unusedSectionVars false
set_option linter.unusedSimpArgs false
namespace Go.Proofs.YtnenfgpjedddoaaGreat.AI
open Go

variable {K : Type} [DecidableEq K] {T : K → Type} {E : Env T} {P : Program}
section
variable {c : Cfg T} {v : V T} {st' : List (Ob T)}

theorem FrOk.known {g : Gh} {fr : Fr T} {tmps : Array Value} {d : Nat} {u : V T} (hf : FrOk E g fr tmps) (hd : Fr.get fr d = some u) : FrOk E g (fr.put (some d) u) tmps := fun t x h => by
  have := get_putO fr (some d) (some u) t
  simp only [AI.putO] at this
  rw [this] at h
  by_cases hdt : d = t
  · subst hdt
    simp only [if_true, Option.some.injEq, Option.getD_some] at h
    subst h
    exact hf _ _ hd
  · rw [if_neg (by simpa using hdt)] at h
    exact hf t x h
theorem FrOk.know {g : Gh} {fr : Fr T} {tmps : Array Value} {x : Operand} {t : Bool} (hf : FrOk E g fr tmps) (hx : evalO fr x = some (.bool t)) : FrOk E g (AI.know fr x t) tmps := by
  unfold AI.know
  split
  · exact hf.known hx
  · exact hf
theorem get_put_self (fr : Fr T) (d : Nat) (u : V T) : Fr.get (fr.put (some d) u) d = some u := by
  have := get_putO fr (some d) (some u) d
  simpa [putO] using this
theorem ex_put {all : Array Oper} {n base i : Nat} {o : Oper} {F : Foot} {fr fr0 : Fr T} {st : List (Ob T)} {s' : Sx T} (hfe : FrEq fr fr0) (h : Ex P E all n base (fr, st) ⟨i, o, F⟩ s') : Ex P E all n base (fr0, st) ⟨i, o, F⟩ s' := by
  obtain ⟨v, rd, wr, h1, h2, h3, h4⟩ := h
  obtain ⟨t', k1, k2, k3, k4⟩ := h1.move (fr' := fr0) (t := st) (fun x _ => (hfe x).symm) rfl (fun _ _ => rfl)
  obtain ⟨f1, f2, f3⟩ := h1.frame
  have ht : t' = s'.2 := by
    apply List.ext_getElem?
    intro x
    by_cases hx : x ∈ wr
    · exact k2 x hx
    · rw [k3 x hx]; exact (f1 x hx).symm
  subst ht
  refine ⟨v, rd, wr, k1, h2, h3, fun t => ?_⟩
  rw [h4 t, get_putO, get_putO]
  dsimp only
  rw [hfe t]
theorem run_put {all : Array Oper} {n base : Nat} {fr fr0 : Fr T} {st : List (Ob T)} {L : List Lb} {s' : Sx T} (hfe : FrEq fr fr0) (h : Run P E all n base (fr, st) L s') : Run P E all n base (fr0, st) L s' := by
  cases h with
  | nil h1 h2 => exact .nil (fun t => (h1 t).trans (hfe t)) h2
  | cons h k => exact .cons (ex_put hfe h) k
theorem put_known {fr : Fr T} {d : Nat} {u : V T} (h : Fr.get fr d = some u) : FrEq (fr.put (some d) u) fr := fun t => by
  have := get_putO fr (some d) (some u) t
  simp only [putO] at this
  rw [this]
  by_cases hdt : d = t
  · subst hdt; simp [h]
  · rw [if_neg (by simpa using hdt)]

theorem dops_good {all : Array Oper} {rest : List Oper} {i base : Nat} {foot : List Foot} {k : List (Item T)} (h : NxGood P E v st' (stepDops E c k all rest i base foot)) : DGood P E c all rest i base foot k v st' := by
  cases rest with
  | nil =>
    simp only [stepDops] at h
    split at h
    · rename_i hr
      intro hk hd
      refine ⟨[], c.fr, c.st, .nil (fun _ => rfl) rfl, ?_, fun l hl => (by cases hl), by simpa using hr, Good.sound h ⟨.top, hk⟩⟩
      have : all.size ≤ i := by
        have := List.drop_eq_nil_iff.1 hd
        simpa using this
      rw [show all.size - i = 0 by omega]
      rfl
    · exact h.elim
  | cons o rest =>
    simp only [stepDops] at h
    split at h
    · exact h.elim
    rename_i hdst
    split at h
    · rename_i hg
      split at h
      · exact h.elim
      · rename_i a ha
        exact performD_good ha (.inl hg) hdst h
    · rename_i j want hg
      unfold stepGuardD at h
      split at h
      · exact h.elim
      · rename_i d hd
        split at h
        · rename_i t ht
          cases hb : (match want with | true => t | false => !t) with
          | true =>
            have htw : t = want := by cases want <;> cases t <;> simp_all
            subst htw
            have h1 := h.1 hb
            have h2 : DGood P E { c with todo := .don all o rest i base foot :: k, fr := c.fr.put (some d) (.bool t) } all (o :: rest) i base foot k v st' := h1 (.inr ⟨j, t, d, hg, hd, get_put_self _ _ _⟩) hdst
            intro hk hdr
            obtain ⟨L, fr1, st1, k1, k2⟩ := h2 hk hdr
            exact ⟨L, fr1, st1, run_put (put_known ht) k1, k2⟩
          | false =>
            have htw : t = !want := by cases want <;> cases t <;> simp_all
            subst htw
            refine DGood.cons (fr1 := (c.fr.put (some d) (.bool !want)).drop o.dst) (st1 := c.st) (rd := []) (wr := []) ⟨none, [], [], .inl ⟨⟨j, want, d, hg, hd, .inl ht⟩, rfl, rfl, rfl, rfl⟩, rfl, hdst, fun t => ?_⟩ (h.2 hb)
            have e1 := get_putO (c.fr.put (some d) (.bool !want)) o.dst none t
            have e2 := get_putO c.fr o.dst none t
            simp only [putO] at e1 e2 ⊢
            rw [e1, e2, put_known ht t]
        · rename_i ht
          exact DGood.cons (fr1 := c.fr.drop o.dst) (st1 := c.st) (rd := []) (wr := []) ⟨none, [], [], .inl ⟨⟨j, want, d, hg, hd, .inr ht⟩, rfl, rfl, rfl, rfl⟩, rfl, hdst, fun _ => rfl⟩ h
        · exact h.elim

/-! ### Operations in the order of the text -/
theorem Sim.to {Z : Zone T} {g : Gh} {w : World} {tmps : Array Value} {todo : List Go.Item} {c1 : Cfg T} {g1 : Gh} {w1 : World} {tmps1 : Array Value} {todo1 : List Go.Item} (h : Sim P E Z c g w tmps todo) (he : Ext g g1 w w1) (hl : g.Le g1) (hi : Inv E g1 c1.st w1) (hf : FrOk E g1 c1.fr tmps1) (hs : tmps1.size = tmps.size)
    (h3 : c1.n = c.n) (h4 : c1.fn = c.fn) (h5 : c1.res = c.res) (h6 : c1.keep = c.keep) (ht : Top Z.kind c1 todo1) : Sim P E Z c1 g1 w1 tmps1 todo1 :=
  ⟨hi, hf, by rw [h3, hs]; exact h.size, ht, by rw [h4, h5]; exact h.fnOk, by rw [h3, h4]; exact h.zone.mono he hl, h.ext.trans he, by rw [h6]; exact h.kin.trans (hl.kin _)⟩
/-- In the function's own frame, objects may also go, or be named anew. -/
theorem Sim.anew {Z : Zone T} {g : Gh} {w : World} {tmps : Array Value} {todo : List Go.Item} {c1 : Cfg T} {g1 : Gh} {w1 : World} {tmps1 : Array Value} {todo1 : List Go.Item} (hZ : Z.kind = .top) (h : Sim P E Z c g w tmps todo) (he : Ext g g1 w w1) (hk : KinTo c.keep g g1) (hi : Inv E g1 c1.st w1) (hf : FrOk E g1 c1.fr tmps1) (hs : tmps1.size = tmps.size)
    (h3 : c1.n = c.n) (h4 : c1.fn = c.fn) (h5 : c1.res = c.res) (h6 : c1.keep = c.keep) (ht : Top Z.kind c1 todo1) : Sim P E Z c1 g1 w1 tmps1 todo1 := by
  refine ⟨hi, hf, by rw [h3, hs]; exact h.size, ht, by rw [h4, h5]; exact h.fnOk, ?_, h.ext.trans he, by rw [h6]; exact h.kin.trans hk⟩
  have hz := h.zone
  unfold Zone.Ok at hz ⊢
  rw [hZ] at hz ⊢
  obtain ⟨rs, k1, k2, k3, k4⟩ := hz
  exact ⟨rs, by rw [h4]; exact k1, k2, k3, k4.mono he⟩
/-- An operation that is wanted. -/
theorem performN_good {c : Cfg T} {o : Oper} (h : NxGood P E v st' (performN E c o)) : NxGood P E v st' (perform E c o) := by
  unfold performN at h
  split at h
  · rename_i x hop
    split at h
    · rename_i i hx
      split at h
      · rename_i s pos hs
        cases hb : Nat.ble (pos + 1) s.length with
        | true =>
          have e : perform E c o = .need true { c with fr := c.fr.put o.dst (.tup [.bool true, .int .i64 pos, .int .i32 (Utf8.decode ⟨⟨s⟩⟩ pos).1]), st := c.st.set i (.iter s (pos + (Utf8.decode ⟨⟨s⟩⟩ pos).2)) } := by
            simp only [perform, opAct, hop, nextA, hx, performA, hs, Option.bind_some, nextK, hb, performWr]
          rw [e]
          exact ⟨rfl, h.1 hb⟩
        | false =>
          have e : perform E c o = .need true { c with fr := c.fr.put o.dst (.tup [.bool false]), st := c.st.set i (.iter s pos) } := by
            simp only [perform, opAct, hop, nextA, hx, performA, hs, Option.bind_some, nextK, hb, performWr]
          rw [e]
          exact ⟨rfl, h.2 hb⟩
      · exact h.elim
    · exact h.elim
  · exact h
theorem perform_good (hE : EnvOk P E) {all : Array Oper} {o : Oper} {rest : List Oper} {k : List (Item T)} {k' : List Go.Item} {i : Nat} {Z : Zone T} {g : Gh} {w : World} {tmps : Array Value} {todo : List Go.Item} (hS : Sim P E Z c g w tmps todo) (ho : all[i]? = some o) (hd : all.toList.drop (i + 1) = rest)
    (hdst : dstOk c.n o.dst = true) (hy : GYes all o c.fr) (hk : ItemsOk Z.kind k k') (hr : Region.wanted o (yielded all tmps) = true) (hg : NxGood P E v st' (perform E { c with todo := .ops all rest :: k } o)) :
    Ends P E (Z.at tmps (.inRegion all (i :: List.range' (i + 1) (all.size - (i + 1))) :: k') w) c.fn c.keep Z.g0 Z.w0 v st' := by
  have hitems : ItemsOk Z.kind (.ops all rest :: k) (.inRegion all (List.range' (i + 1) (all.size - (i + 1))) :: k') := .ops hd hk
  -- what is left to do once the operation has run
  have fin : ∀ {u : Option (V T)} {st1 : List (Ob T)}, (∀ c, o.op ≠ .defer c) → Good P E { c with todo := .ops all rest :: k, fr := putO c.fr o.dst u, st := st1 } v st' →
      (∀ (R : Act → World → Prop), (∀ g' w' x, To E g w g' st1 w' → RepO E g' u x → R ((⟨tmps, Z.ds⟩ : Act).put o.dst x) w') → o.wp P ⟨tmps, Z.ds⟩ w R (fun _ _ _ => False)) →
      Ends P E (Z.at tmps (.inRegion all (i :: List.range' (i + 1) (all.size - (i + 1))) :: k') w) c.fn c.keep Z.g0 Z.w0 v st' := fun {u st1} hnd hgood hwp => by
    have hsound := hgood.sound ⟨_, _, hitems⟩
    intro cs
    obtain ⟨a', w', ⟨g', x, ha, hto, hx⟩, hsteps⟩ := one_op (b := Z.b) (k := k') (rest := List.range' (i + 1) (all.size - (i + 1))) ho hr hnd
      (hwp (fun a' w' => ∃ g' x, a' = (⟨tmps, Z.ds⟩ : Act).put o.dst x ∧ To E g w g' st1 w' ∧ RepO E g' u x) fun g' w' x h1 h2 => ⟨g', x, rfl, h1, h2⟩) (Z.above ++ cs)
    subst ha
    have hfr : FrOk E g' (putO c.fr o.dst u) ((⟨tmps, Z.ds⟩ : Act).put o.dst x).tmps := FrOk.putO (a := ⟨tmps, Z.ds⟩) (hS.fr.mono hto.le) hx hdst hS.size
    have hsim : Sim P E Z { c with todo := .ops all rest :: k, fr := putO c.fr o.dst u, st := st1 } g' w' ((⟨tmps, Z.ds⟩ : Act).put o.dst x).tmps (.inRegion all (List.range' (i + 1) (all.size - (i + 1))) :: k') :=
      hS.to hto.ext hto.le hto.inv hfr (put_size ⟨tmps, Z.ds⟩ _ _) rfl rfl rfl rfl (.items hitems)
    obtain ⟨fr', w2, g2, y, h1, h2⟩ := hsound _ _ _ _ _ hsim cs
    have hact : (⟨tmps, Z.ds⟩ : Act).put o.dst x = ⟨((⟨tmps, Z.ds⟩ : Act).put o.dst x).tmps, Z.ds⟩ := by
      cases hdd : o.dst <;> rfl
    unfold Zone.at at h1
    rw [← hact] at h1
    exact ⟨fr', w2, g2, y, hsteps.trans h1, h2⟩
  unfold perform at hg
  split at hg
  · exact hg.elim
  rename_i a ha
  dsimp only at ha
  have res : ∀ {p : Nat} {rd wr : List Nat} {u : Option (V T)} {st1 : List (Ob T)}, Res P E p c.st a rd wr u st1 → Good P E { c with todo := .ops all rest :: k, fr := putO c.fr o.dst u, st := st1 } v st' →
      Ends P E (Z.at tmps (.inRegion all (i :: List.range' (i + 1) (all.size - (i + 1))) :: k') w) c.fn c.keep Z.g0 Z.w0 v st' := fun hres hgood => fin (opAct_nodefer ha) hgood fun R hR => hres.wp (a := ⟨tmps, Z.ds⟩) hE hS.inv hS.fr ha hR
  cases a with
  | val u => exact res (p := 0) (.val u) hg
  | need b u =>
    obtain ⟨rfl, hg⟩ := hg
    exact res (p := 0) (.need u) hg
  | rd x f =>
    simp only [performA, performRd] at hg
    split at hg
    · rename_i b u hu
      obtain ⟨rfl, hg⟩ := hg
      exact res (p := 0) (.rd hu) hg
    · exact hg.elim
  | wr x f =>
    simp only [performA, performWr] at hg
    split at hg
    · rename_i b ob u hu
      obtain ⟨rfl, hg⟩ := hg
      exact res (p := 0) (.wr hu) hg
    · rename_i b ob hu
      obtain ⟨rfl, hg⟩ := hg
      exact res (p := 0) (.wr hu) hg
    · exact hg.elim
  | new b ob mk =>
    obtain ⟨rfl, hg⟩ := hg
    refine fin (u := some (mk c.st.length)) (st1 := c.st ++ [ob]) (opAct_nodefer ha) hg fun R hR => ?_
    obtain ⟨d1, d2, d3⟩ := hS.inv.dead 1
    have hdead : deads (c.st ++ List.replicate 1 .dead) c.st.length 1 = true := by
      rw [deads_spec]
      intro k hk
      have : k = 0 := by omega
      subst this
      simp
    refine (Res.new (P := P) (E := E) (p := c.st.length) (ob := ob) (mk := mk) hdead).wp (a := ⟨tmps, Z.ds⟩) hE d1 (hS.fr.mono d3) ha fun g' w' x hto hx => ?_
    refine hR g' w' x ?_ hx
    have hset : (c.st ++ List.replicate 1 Ob.dead).set c.st.length ob = c.st ++ [ob] := by
      rw [List.set_append_right _ _ (Nat.le_refl _)]
      simp
    rw [← hset]
    exact (To.mk d3 d1 d2).trans hto
  | fork b u u' =>
    obtain ⟨hg2, hg1⟩ := hg
    have hs := opAct_sound (P := P) (a := ⟨tmps, Z.ds⟩) o hE hS.inv hS.fr ha
    have one : ∀ {z : V T}, Gives E g w ((execOp (⟨tmps, Z.ds⟩ : Act).eval o).run P w) c.st z → Good P E { c with todo := .ops all rest :: k, fr := putO c.fr o.dst (some z), st := c.st } v st' →
        Ends P E (Z.at tmps (.inRegion all (i :: List.range' (i + 1) (all.size - (i + 1))) :: k') w) c.fn c.keep Z.g0 Z.w0 v st' := fun hz hgood => fin (opAct_nodefer ha) hgood fun R hR => by
      obtain ⟨g', w', x, h1, h2, h3⟩ := hz
      unfold Oper.wp
      rw [h1]
      exact hR g' w' x h2 h3
    rcases hs with hs | ⟨hb, hs⟩
    · exact one hs hg2
    · exact one hs (hg1 hb)
  | call f args =>
    simp only [performA, callOf] at hg
    split at hg
    · exact hg.elim
    · rename_i args1 st1 hh
      split at hg
      · exact hg.elim
      · rename_i ids args2 obs hp
        obtain ⟨r, obs', ⟨⟨fn, hfn, hb, hn⟩, hc⟩, hg⟩ := hg
        dsimp only at hg
        split at hg
        · rename_i u obs2 haf
          refine fin (u := some u) (st1 := merge ids obs2 st1) (opAct_nodefer ha) hg fun R hR => ?_
          obtain ⟨xs, hxs, hent⟩ := opAct_sound (P := P) (a := ⟨tmps, Z.ds⟩) o hE hS.inv hS.fr ha
          unfold Oper.wp
          rw [hent fn hfn hb hn]
          obtain ⟨g1, k1, k2⟩ := handOver_ok hE hS.inv hxs hh
          simp only [Oper.upon]
          refine (call_new k1.inv k2 hp hc haf).mono fun e w' ⟨x, g3, he, hto, hx⟩ => ?_
          subst he
          exact hR g3 w' x (k1.trans hto) hx
        · exact hg.elim
end
end Go.Proofs.YtnenfgpjedddoaaGreat.AI

/- The abstract interpreter is right: whole runs. -/
set_option linter.unusedVariables false
set_option linter.unusedSectionVars false
set_option linter.unusedSimpArgs false
namespace Go.Proofs.YtnenfgpjedddoaaGreat.AI
open Go

variable {K : Type} [DecidableEq K] {T : K → Type} {E : Env T} {P : Program}
section
variable {c : Cfg T} {v : V T} {st' : List (Ob T)} {Z : Zone T} {g : Gh} {w : World} {tmps : Array Value} {todo : List Go.Item}

/-- On with other objects and slots, in the function's own frame. -/
theorem onward {c1 : Cfg T} {g1 : Gh} {todo1 : List Go.Item} (hZ : Z.kind = .top) (hS : Sim P E Z c g w tmps todo) (hG : Good P E c1 v st') (hs : ∀ cs, Steps P (Z.at tmps todo w cs) (Z.at tmps todo1 w cs)) (hi : Inv E g1 c1.st w) (hf : FrOk E g1 c1.fr tmps)
    (he : Ext g g1 w w) (hk : KinTo c.keep g g1) (h3 : c1.n = c.n) (h4 : c1.fn = c.fn) (h5 : c1.res = c.res) (h6 : c1.keep = c.keep) (ht : ItemsOk Z.kind c1.todo todo1) : Ends P E (Z.at tmps todo w) c.fn c.keep Z.g0 Z.w0 v st' :=
  Ends.next hs h4 h6 (hG.sound ⟨_, _, ht⟩ _ _ _ _ _ (hS.anew hZ he hk hi hf rfl h3 h4 h5 h6 (.items ht)))
/-- With other slots. -/
theorem slots {c1 : Cfg T} {todo1 : List Go.Item} (hS : Sim P E Z c g w tmps todo) (hG : Good P E c1 v st') (hs : ∀ cs, Steps P (Z.at tmps todo w cs) (Z.at tmps todo1 w cs))
    (h1 : c1.st = c.st) (hf : FrOk E g c1.fr tmps) (h3 : c1.n = c.n) (h4 : c1.fn = c.fn) (h5 : c1.res = c.res) (h6 : c1.keep = c.keep) (ht : ItemsOk Z.kind c1.todo todo1) : Ends P E (Z.at tmps todo w) c.fn c.keep Z.g0 Z.w0 v st' :=
  Ends.next hs h4 h6 (hG.sound ⟨_, _, ht⟩ _ _ _ _ _ (hS.to (.refl _ _) (.refl _) (by rw [h1]; exact hS.inv) hf rfl h3 h4 h5 h6 (.items ht)))
theorem quiet {c1 : Cfg T} {todo1 : List Go.Item} (hS : Sim P E Z c g w tmps todo) (hG : Good P E c1 v st') (hs : ∀ cs, Steps P (Z.at tmps todo w cs) (Z.at tmps todo1 w cs))
    (h1 : c1.st = c.st) (h2 : c1.fr = c.fr) (h3 : c1.n = c.n) (h4 : c1.fn = c.fn) (h5 : c1.res = c.res) (h6 : c1.keep = c.keep) (ht : ItemsOk Z.kind c1.todo todo1) : Ends P E (Z.at tmps todo w) c.fn c.keep Z.g0 Z.w0 v st' :=
  slots hS hG hs h1 (by rw [h2]; exact hS.fr) h3 h4 h5 h6 ht

theorem ret_good (hE : EnvOk P E) (hZ : Z.kind = .top) (hS : Sim P E Z c g w tmps todo) (hG : NxGood P E v st' (stepRet E c)) (hs : ∀ cs, Z.b.roundOf = none → Steps P (Z.at tmps todo w cs) (lone { Z.b.atR ⟨tmps, Z.ds⟩ todo with mode := .returning } (Z.above ++ cs) w)) : Ends P E (Z.at tmps todo w) c.fn c.keep Z.g0 Z.w0 v st' := by
  obtain ⟨fn, hfn, hres⟩ := hS.fnOk
  have hz := hS.zone
  unfold Zone.Ok at hz
  rw [hZ] at hz
  obtain ⟨rs, k1, k2, k3, k4⟩ := hz
  have fin : ∀ {u : V T} {X : World → Value}, (∀ w2, Inv E g c.st w2 → ∃ x, Rep E g u x ∧ (results fn tmps).run P w2 = .ok x w2) → (match leave E c u with
      | some (v, st) => Nx.ret v st
      | none => .stuck) = stepRet E c → Ends P E (Z.at tmps todo w) c.fn c.keep Z.g0 Z.w0 v st' := fun {u X} hr heq => by
    rw [← heq] at hG
    split at hG
    · rename_i v1 st1 hl
      obtain ⟨rfl, rfl⟩ := hG
      intro cs
      obtain ⟨w2, u1, u2, u3⟩ := unwind_marks (P := P) (E := E) (cs := Z.above ++ cs) rs (fr := { Z.b.atR ⟨tmps, Z.ds⟩ todo with mode := .returning }) hS.inv k4 hS.ext rfl k2
      obtain ⟨x, r1, r2⟩ := hr w2 u2
      obtain ⟨g', h1, h2, h3, h4⟩ := leave_ok hE u2 r1 hl
      refine ⟨{ ({ Z.b.atR ⟨tmps, Z.ds⟩ todo with mode := .returning } : Frame) with defers := [] }, w2, g', x, (hs cs (by rw [k1]; rfl)).trans ?_, ?_, ⟨rfl, rfl, ?_, fn, ?_, r2⟩, h1, u3.trans h2, hS.kin.trans h3, h4⟩
      · have := u1
        rw [k3, List.nil_append] at this ⊢
        exact this
      · show Z.b.fn = c.fn
        rw [k1]; rfl
      · show Z.b.kind = .normal
        rw [k1]; rfl
      · show P.funcs[Z.b.fn]? = some fn
        rw [k1]; exact hfn
    · exact hG.elim
  cases hv : resultV E c.fr c.st c.res with
  | none =>
    unfold stepRet at hG
    rw [hv] at hG
    exact hG.elim
  | some vs =>
    have hall : ∀ w2, Inv E g c.st w2 → ∃ xs, Reps E g vs xs ∧ (results fn tmps).run P w2 = .ok (if h : xs.toArray.size = 1 then xs.toArray[0] else .tuple xs.toArray) w2 := fun w2 hi2 => by
      obtain ⟨xs, h1, h2⟩ := resultV_ok (P := P) hE hi2 hS.fr _ _ hv
      rw [hres] at h1
      refine ⟨xs, h2, ?_⟩
      unfold results
      rw [Array.mapM_eq_mapM_toList]
      simp only [Sem.run_bind, Sem.run_map]
      exact (congrArg (fun r : Result (List Value) => ((r.andThen fun a w' => Result.ok a.toArray w').andThen fun a w' => Sem.run P (pure (if h : a.size = 1 then a[0] else Value.tuple a)) w')) h1).trans rfl
    match vs, hv, hall with
    | [], hv, hall =>
      refine fin (u := .tup []) (X := fun _ => undef) (fun w2 hi2 => ?_) (by unfold stepRet; rw [hv]; rfl)
      obtain ⟨xs, h2, hrun⟩ := hall w2 hi2
      cases h2
      exact ⟨_, .tup .nil, hrun⟩
    | [u], hv, hall =>
      refine fin (u := u) (X := fun _ => undef) (fun w2 hi2 => ?_) (by unfold stepRet; rw [hv]; rfl)
      obtain ⟨xs, h2, hrun⟩ := hall w2 hi2
      cases h2 with
      | cons a b =>
        cases b
        exact ⟨_, a, hrun⟩
    | u1 :: u2 :: us, hv, hall =>
      refine fin (u := .tup (u1 :: u2 :: us)) (X := fun _ => undef) (fun w2 hi2 => ?_) (by unfold stepRet; rw [hv]; rfl)
      obtain ⟨xs, h2, hrun⟩ := hall w2 hi2
      cases h2 with
      | cons a b =>
        cases b with
        | cons b d => exact ⟨_, .tup (.cons a (.cons b d)), by simpa using hrun⟩

theorem norm_ok {c1 : Cfg T} {live : List Nat} (hS : Sim P E Z c g w tmps todo) (h : c.norm live = some c1) : ∃ g1, Inv E g1 c1.st w ∧ FrOk E g1 c1.fr tmps ∧ Ext g g1 w w ∧ KinTo c.keep g g1 ∧ c1.n = c.n ∧ c1.fn = c.fn ∧ c1.res = c.res ∧ c1.keep = c.keep := by
  unfold Cfg.norm at h
  dsimp only at h
  obtain ⟨g1, h1⟩ := growSt_ok (E := E) c.st.length 0 hS.inv
  obtain ⟨l1, l2⟩ := lives_reps hS.fr live
  obtain ⟨g2, h2, h3⟩ := grows_ok _ h1.inv (l1.mono h1.le)
  split at h
  · rename_i ids vs' obs hp
    simp only [Option.some.injEq] at h
    subst h
    obtain ⟨g3, k1, k2, k3, k4⟩ := pack_fr hS.inv hS.fr (h1.trans h2) h3 hp
    exact ⟨g3, k1, k4, k2, k3, rfl, rfl, rfl, rfl⟩
  · cases h

theorem Inv.drawn {st : List (Ob T)} (hi : Inv E g st w) (n : Nat) : Inv E g st { w with drawn := n } := ⟨hi.froz, hi.len, hi.obs, hi.apart, hi.glob, hi.ints⟩
/-- A region whose order is drawn, as a whole. -/
theorem drawn_good (hE : EnvOk P E) {id : Nat} {ops : Array Oper} {k : List (Item T)} {k' : List Go.Item} (hZ : Z.kind = .top) (hS : Sim P E Z c g w tmps (.code (.region id ops true) :: k')) (ht : ItemsOk .top k k') (hG : Good P E (inReg c k ops true) v st') :
    Ends P E (Z.at tmps (.code (.region id ops true) :: k') w) c.fn c.keep Z.g0 Z.w0 v st' := by
  have hi := hS.inv
  have hf := hS.fr
  have hz := hS.zone
  unfold Zone.Ok at hz
  rw [hZ] at hz
  obtain ⟨rs, z1, z2, z3, z4⟩ := hz
  obtain ⟨L, fr1, st1, hrun, hidx, hop, hreg, hsound⟩ := (show DGood P E (inReg c k ops true) ops ops.toList 0 c.st.length [] k v st' from hG) ⟨k', ht⟩ rfl
  have hrun : Run P E ops c.n c.st.length (c.fr, c.st ++ List.replicate (4 * ops.size) Ob.dead) L (fr1, st1) := hrun
  rw [List.nil_append] at hreg
  simp only [regOk, Bool.and_eq_true] at hreg
  obtain ⟨⟨hbw, hfeet⟩, _⟩ := hreg
  rw [Nat.sub_zero] at hidx
  have hlen : L.length = ops.size := by
    have := congrArg List.length hidx
    simpa using this
  have hback : ∀ (b : Nat) (o : Oper), ops[b]? = some o → ∀ e ∈ o.after, Region.binds .any e = true → e.on < b := fun b o hb e h1 h2 => by
    have := backward_spec hbw b o (by simpa using hb) e h1 h2
    omega
  obtain ⟨d1, d2, d3⟩ := (hi.drawn (w.drawn + 1)).dead (4 * ops.size)
  have hsort : L.Pairwise (fun a b => a.i < b.i) := by
    have h1 : (L.map (·.i)).Pairwise (· < ·) := by rw [hidx]; exact List.pairwise_lt_range'
    exact (List.pairwise_map.1 h1)
  have hap : L.Pairwise (fun a b => ((Region.before ops).getD b.i 0).testBit a.i = true ∨ apart1 a.F b.F = true) := by
    have key : ∀ (M : List Lb), (∀ l ∈ M, l.F.idx = l.i) → footsOk (Region.before ops) (M.map (·.F)) = true → M.Pairwise (fun a b => ((Region.before ops).getD b.i 0).testBit a.i = true ∨ apart1 a.F b.F = true) := by
      intro M
      induction M with
      | nil => intro _ _; exact .nil
      | cons l M ih =>
        intro h1 h2
        simp only [List.map_cons, footsOk, Bool.and_eq_true, List.all_eq_true, Bool.or_eq_true] at h2
        refine .cons (fun m hm => ?_) (ih (fun m hm => h1 m (List.mem_cons_of_mem _ hm)) h2.2)
        have := h2.1 m.F (List.mem_map.2 ⟨m, hm, rfl⟩)
        rwa [h1 m (List.mem_cons_of_mem _ hm), h1 l (List.mem_cons_self ..)] at this
    exact key L (fun l hl => (hop l hl).2) hfeet
  have hany := any_order (P := P) (base := c.st.length) (n := c.n) (s' := (fr1, st1)) (a := ⟨tmps, marks rs⟩) (w := { w with drawn := w.drawn + 1 }) (Q := fun e a' w' => e = .normal ∧ a'.defers = marks rs ∧ a'.tmps.size = tmps.size ∧ ∃ g', To E _ { w with drawn := w.drawn + 1 } g' st1 w' ∧ FrOk E g' fr1 a'.tmps)
    hE hback ops.size L (Array.replicate ops.size false) (c.fr, c.st ++ List.replicate (4 * ops.size) .dead) _ (by omega) d1 (hf.mono d3) hS.size hrun (by simp)
    (fun i hi => by
      rw [show (Array.replicate ops.size false).getD i true = false by simp [hi]]
      simp only [true_iff]
      have : i ∈ L.map (·.i) := by rw [hidx]; simp [List.mem_range']; omega
      obtain ⟨l, h1, h2⟩ := List.mem_map.1 this
      exact ⟨l, h1, h2⟩)
    (fun l hl => (hop l hl).1) hsort hap
    (fun b o hb hl => by
      rw [show (Array.replicate ops.size false).getD b false = false by
        simp only [Array.getD_eq_getD_getElem?, Array.getElem?_replicate]
        split <;> rfl] at hl
      cases hl)
    (fun g' a' w' h1 h2 h3 h4 => ⟨rfl, h4, h3, g', h1, h2⟩)
  have hwp := wp_region_any (id := id) hE.mixed hany
  intro cs
  obtain ⟨e, a', w', ⟨rfl, hd', hs', g', hto, hf'⟩, harr⟩ := hwp (bf c.fn) k' cs
  have hact : a' = ⟨a'.tmps, marks rs⟩ := by
    cases a'
    simp only at hd'
    subst hd'
    rfl
  have hx : Ext g g w { w with drawn := w.drawn + 1 } := ⟨.refl _, rfl, rfl, rfl, Nat.le_refl _, fun _ _ _ => ⟨rfl, fun _ => rfl⟩, fun _ h => .inl h⟩
  have hsim : Sim P E Z { inReg c k ops true with todo := k, fr := fr1, st := st1 } g' w' a'.tmps k' :=
    hS.to (hx.trans (d2.trans hto.ext)) (d3.trans hto.le) hto.inv hf' hs' rfl rfl rfl rfl (.items (by rw [hZ]; exact ht))
  obtain ⟨fr', w2, g2, y, k1, k2⟩ := hsound _ _ _ _ _ hsim cs
  refine ⟨fr', w2, g2, y, Steps.trans ?_ k1, k2⟩
  unfold Zone.at
  rw [z1, z2, z3]
  rw [hact] at harr
  exact harr
end

theorem region_good (hE : EnvOk P E) {c : Cfg T} {v : V T} {st' : List (Ob T)} {Z : Zone T} {g : Gh} {w : World} {tmps : Array Value} {id : Nat} {ops : Array Oper} {draw : Bool} {k : List (Item T)} {k' : List Go.Item} (hZ : draw = true → Z.kind = .top) (hS : Sim P E Z c g w tmps (.code (.region id ops draw) :: k')) (hk : ItemsOk Z.kind k k')
    (hG : Good P E (inReg c k ops draw) v st') : Ends P E (Z.at tmps (.code (.region id ops draw) :: k') w) c.fn c.keep Z.g0 Z.w0 v st' := by
  have hreg : ItemsOk Z.kind (.ops ops ops.toList :: k) (.inRegion ops (List.range ops.size) :: k') := by
    have := ItemsOk.ops (all := ops) (i := 0) (rest := ops.toList) rfl hk
    rw [Nat.sub_zero, ← List.range_eq_range'] at this
    exact this
  cases draw with
  | false => exact quiet (c1 := inReg c k ops false) hS hG (fun cs => .one stepR_region) rfl rfl rfl rfl rfl rfl hreg
  | true => exact drawn_good hE (hZ rfl) hS (by rw [hZ rfl] at hk; exact hk) hG
end Go.Proofs.YtnenfgpjedddoaaGreat.AI
