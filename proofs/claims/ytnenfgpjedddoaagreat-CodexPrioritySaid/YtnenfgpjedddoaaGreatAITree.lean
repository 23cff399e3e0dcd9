/- Runs as decision trees; closed runs. -/
import Derived.Test.YtnenfgpjedddoaaGreatAIRun4
set_option linter.unusedVariables false
set_option linter.unusedSectionVars false
set_option linter.unusedSimpArgs false
namespace Go.Proofs.YtnenfgpjedddoaaGreat.AI
open Go

variable {K : Type} [DecidableEq K] {T : K → Type}

/-- What calls give: a type of descriptions for each function, and what they stand for. -/
structure Say (T : K → Type) where
  R : Nat → Type
  res : (f : Nat) → R f → V T × List (Ob T)

inductive Tr {K : Type} {T : K → Type} (S : Say T) : Type where
  | need (b : Bool) (t : Tr S)
  | br (b : Bool) (t u : Tr S)
  | fork (b : Bool) (t u : Tr S)
  | call (f : Nat) (args : List (V T)) (obs : List (Ob T)) (k : S.R f → Tr S)
  | ret (v : V T) (st : List (Ob T))
  | stop (c : Cfg T)

/-- Where a way is known beforehand. -/
inductive Hint where
  | any
  | two (a b : Hint)
  | yes (a : Hint)
  | no (a : Hint)
def tree (E : Env T) (S : Say T) : Nat → Hint → Cfg T → Tr S
  | 0, _, c => .stop c
  | n + 1, h, c => match step E c with
    | .go c => tree E S n h c
    | .need b c => .need b (tree E S n h c)
    | .br b c d => match h with
      | .any => .br b (tree E S n .any c) (tree E S n .any d)
      | .two h1 h2 => .br b (tree E S n h1 c) (tree E S n h2 d)
      | .yes h1 => .need b (tree E S n h1 c)
      | .no h1 => .need (!b) (tree E S n h1 d)
    | .fork b c d => match h with
      | .two h1 h2 => .fork b (tree E S n h1 c) (tree E S n h2 d)
      | _ => .fork b (tree E S n .any c) (tree E S n .any d)
    | .call f args obs k => .call f args obs fun r => tree E S n h (k (S.res f r).1 (S.res f r).2)
    | .ret v st => .ret v st
    | .cut c => .stop c
    | .stuck => .stop c
/-- A call is known, or runs. -/
def Calld (E : Env T) (X : Nat → List (V T) → List (Ob T) → V T → List (Ob T) → Prop) (f : Nat) (args : List (V T)) (obs : List (Ob T)) (r : V T) (obs' : List (Ob T)) : Prop :=
  X f args obs r obs' ∨ ∃ e, entry E f args obs = some e ∧ Runs E X e r obs'
def Tr.ok {S : Say T} (E : Env T) (X : Nat → List (V T) → List (Ob T) → V T → List (Ob T) → Prop) (v : V T) (st : List (Ob T)) : Tr S → Prop
  | .need b t => b = true ∧ t.ok E X v st
  | .br b t u => (b = true → t.ok E X v st) ∧ (b = false → u.ok E X v st)
  | .fork b t u => u.ok E X v st ∧ (b = true → t.ok E X v st)
  | .call f args obs k => ∃ r, Calld E X f args obs (S.res f r).1 (S.res f r).2 ∧ (k r).ok E X v st
  | .ret v' st' => v' = v ∧ st' = st
  | .stop c => Runs E X c v st
/-- Some needs that are met. -/
def nd {S : Say T} : Nat → Tr S → Tr S
  | 0, t => t
  | n + 1, t => .need true (nd n t)
theorem nd_ok {S : Say T} {E : Env T} {X : Nat → List (V T) → List (Ob T) → V T → List (Ob T) → Prop} {v : V T} {st : List (Ob T)} {t : Tr S} : ∀ {n : Nat}, (nd n t).ok E X v st = t.ok E X v st
  | 0 => rfl
  | n + 1 => by
    have : (nd (n + 1) t).ok E X v st = (true = true ∧ (nd n t).ok E X v st) := rfl
    rw [this, nd_ok (n := n)]
    simp
theorem tree_ok {E : Env T} {S : Say T} {X : Nat → List (V T) → List (Ob T) → V T → List (Ob T) → Prop} {v : V T} {st : List (Ob T)} : ∀ (n : Nat) (h : Hint) (c : Cfg T), (tree E S n h c).ok E X v st → Runs E X c v st
  | 0, _, c, h => h
  | n + 1, hh, c, h => by
    unfold tree at h
    split at h
    · rename_i hs; exact .go hs (tree_ok n _ _ h)
    · rename_i hs
      obtain ⟨rfl, h⟩ := h
      exact .need hs (tree_ok n _ _ h)
    · rename_i b c1 d1 hs
      split at h
      · exact .br hs (fun hb => tree_ok n _ _ (h.1 hb)) (fun hb => tree_ok n _ _ (h.2 hb))
      · exact .br hs (fun hb => tree_ok n _ _ (h.1 hb)) (fun hb => tree_ok n _ _ (h.2 hb))
      · exact .br hs (fun hb => tree_ok n _ _ h.2) (fun hb => by rw [h.1] at hb; cases hb)
      · exact .br hs (fun hb => by rw [hb] at h; cases h.1) (fun hb => tree_ok n _ _ h.2)
    · rename_i hs
      split at h
      · exact .fork hs (tree_ok n _ _ h.1) (fun hb => tree_ok n _ _ (h.2 hb))
      · exact .fork hs (tree_ok n _ _ h.1) (fun hb => tree_ok n _ _ (h.2 hb))
    · rename_i hs
      obtain ⟨r, hc | ⟨e, he, hr⟩, hk⟩ := h
      · exact .ext hs hc (tree_ok n _ _ hk)
      · exact .enter hs he hr (tree_ok n _ _ hk)
    · rename_i hs
      obtain ⟨rfl, rfl⟩ := h
      exact .ret hs
    · rename_i hs; exact .cut hs h
    · exact h
/-- By a tree that is written out. -/
theorem runs_by {E : Env T} {S : Say T} {X : Nat → List (V T) → List (Ob T) → V T → List (Ob T) → Prop} {v : V T} {st : List (Ob T)} {n : Nat} {hh : Hint} {c : Cfg T} {t : Tr S} (h : tree E S n hh c = t) (k : t.ok E X v st) : Runs E X c v st :=
  tree_ok n hh c (by rw [h]; exact k)
theorem calld_by {E : Env T} {X : Nat → List (V T) → List (Ob T) → V T → List (Ob T) → Prop} {f : Nat} {args : List (V T)} {obs obs' : List (Ob T)} {r : V T} {e : Cfg T} (h : entry E f args obs = some e) (k : Runs E X e r obs') : Calld E X f args obs r obs' := .inr ⟨e, h, k⟩

/-- A closed run. -/
theorem evalN_runs {E : Env T} {X : Nat → List (V T) → List (Ob T) → V T → List (Ob T) → Prop} {ext : Nat → List (V T) → List (Ob T) → Option (V T × List (Ob T))} (hx : ∀ f args obs v st, ext f args obs = some (v, st) → Calld E X f args obs v st) :
    ∀ (n : Nat) (c : Cfg T) {v : V T} {st : List (Ob T)}, evalN E ext n c = some (v, st) → Runs E X c v st
  | 0, c, v, st, h => by simp [evalN] at h
  | n + 1, c, v, st, h => by
    unfold evalN at h
    split at h
    · rename_i hs; exact .go hs (evalN_runs hx n _ h)
    · rename_i hs
      split at h
      · exact .need hs (evalN_runs hx n _ h)
      · cases h
    · rename_i hs
      split at h
      · exact .br hs (fun _ => evalN_runs hx n _ h) (fun hb => by cases hb)
      · exact .br hs (fun hb => by cases hb) (fun _ => evalN_runs hx n _ h)
    · rename_i hs
      split at h
      · cases h
      · exact .fork hs (evalN_runs hx n _ h) (fun hb => by cases hb)
    · rename_i hs
      split at h
      · rename_i he
        rcases hx _ _ _ _ _ he with hc | ⟨e, he2, hr⟩
        · exact .ext hs hc (evalN_runs hx n _ h)
        · exact .enter hs he2 hr (evalN_runs hx n _ h)
      · split at h
        · rename_i he
          split at h
          · rename_i hr
            exact .enter hs he (evalN_runs hx n _ hr) (evalN_runs hx n _ h)
          · cases h
        · cases h
    · rename_i hs
      simp only [Option.some.injEq, Prod.mk.injEq] at h
      obtain ⟨rfl, rfl⟩ := h
      exact .ret hs
    · rename_i hs; exact .cut hs (evalN_runs hx n _ h)
    · cases h

/-! ### Where a function goes on -/
/-- What stands ahead at a region. -/
def locate (r : Nat) : Code → List (Item T) → Option (List (Item T))
  | .region id ops d, k => match Nat.beq id r with
    | true => some (.reg id ops d :: k)
    | false => none
  | .seq a b, k => match locate r a (.code b :: k) with
    | some l => some l
    | none => locate r b k
  | .cond _ a b, k => match locate r a k with
    | some l => some l
    | none => locate r b k
  | .block id body, k => locate r body (.inBlock id :: k)
  | .loop body, k => locate r body (.inLoop body none :: k)
  | _, _ => none
/-- A function at a cut. -/
def atCut (E : Env T) (f r keep : Nat) (fr : Fr T) (st : List (Ob T)) : Cfg T :=
  match E.fns f with
  | some fn => { todo := (locate r (fn.body.getD .skip) [.code .ret]).getD [], fr := fr, st := st, fn := f, keep := keep, n := fn.ntmps, res := fn.results.toList }
  | none => { todo := [], fr := fr, st := st, fn := f, keep := keep, n := 0, res := [] }
/-- Where a loop over a function stands, by its first variable. -/
def locateR (p : Nat) : Code → List (Item T) → Option (Nat × Code × Code × List (Item T))
  | .rangeFunc _ ps assign body, k => match ps.toList with
    | [a, b] => match Nat.beq a p with
      | true => some (b, assign, body, k)
      | false => none
    | _ => none
  | .seq a b, k => match locateR p a (.code b :: k) with
    | some l => some l
    | none => locateR p b k
  | .cond _ a b, k => match locateR p a k with
    | some l => some l
    | none => locateR p b k
  | .block id body, k => locateR p body (.inBlock id :: k)
  | .loop body, k => locateR p body (.inLoop body none :: k)
  | _, _ => none
/-- A function at such a loop's head. -/
def atHead (E : Env T) (f p keep : Nat) (e : K) (cap : V T) (i : Nat) (fr : Fr T) (st : List (Ob T)) : Cfg T :=
  match E.fns f with
  | some fn => match locateR p (fn.body.getD .skip) [.code .ret] with
    | some (q, assign, body, k) => { todo := .head ⟨e, cap, p, q, assign, body⟩ i :: k, fr := fr, st := st, fn := f, keep := keep, n := fn.ntmps, res := fn.results.toList }
    | none => { todo := [], fr := fr, st := st, fn := f, keep := keep, n := 0, res := [] }
  | none => { todo := [], fr := fr, st := st, fn := f, keep := keep, n := 0, res := [] }
def entryC (E : Env T) (f : Nat) (args : List (V T)) (st : List (Ob T)) : Cfg T := (entry E f args st).getD { todo := [], fr := [], st := [], fn := 0, keep := 0, n := 0, res := [] }
theorem calld_run {E : Env T} {X : Nat → List (V T) → List (Ob T) → V T → List (Ob T) → Prop} {f : Nat} {args : List (V T)} {obs obs' : List (Ob T)} {r : V T} (h : (entry E f args obs).isSome = true) (k : Runs E X (entryC E f args obs) r obs') : Calld E X f args obs r obs' := by
  unfold entryC at k
  cases he : entry E f args obs with
  | none => rw [he] at h; cases h
  | some e => rw [he] at k; exact .inr ⟨e, he, k⟩
theorem calld_callee {E : Env T} {P : Program} (hE : EnvOk P E) {X : Nat → List (V T) → List (Ob T) → V T → List (Ob T) → Prop} (hX : ∀ f args obs r obs', X f args obs r obs' → Callee P E f args obs r obs') {f : Nat} {args : List (V T)} {obs obs' : List (Ob T)} {r : V T}
    (h : Calld E X f args obs r obs') : Callee P E f args obs r obs' := by
  rcases h with h | ⟨e, he, hr⟩
  · exact hX _ _ _ _ _ h
  · exact runs_callee hE hX he hr
end Go.Proofs.YtnenfgpjedddoaaGreat.AI
