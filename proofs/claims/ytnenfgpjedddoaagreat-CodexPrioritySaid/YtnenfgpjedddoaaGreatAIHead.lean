/- Closed runs in which some calls are answered: the calls that were answered are listed. -/
import Derived.Test.YtnenfgpjedddoaaGreatAITree
set_option linter.unusedVariables false
set_option linter.unusedSectionVars false
set_option linter.unusedSimpArgs false
namespace Go.Proofs.YtnenfgpjedddoaaGreat.AI
open Go

variable {K : Type} [DecidableEq K] {T : K → Type}

/-- A call that was answered; two ways that must end alike. -/
inductive Ev {K : Type} (T : K → Type) : Type where
  | call (f : Nat) (args : List (V T)) (obs : List (Ob T)) (r : V T × List (Ob T))
  | same (r s : V T × List (Ob T))
inductive EvsOk (E : Env T) (X : Nat → List (V T) → List (Ob T) → V T → List (Ob T) → Prop) : List (Ev T) → Prop
  | nil : EvsOk E X []
  | call {f args obs r l} (h : Calld E X f args obs r.1 r.2) (k : EvsOk E X l) : EvsOk E X (.call f args obs r :: l)
  | same {r l} (k : EvsOk E X l) : EvsOk E X (.same r r :: l)
theorem EvsOk.append {E : Env T} {X : Nat → List (V T) → List (Ob T) → V T → List (Ob T) → Prop} : ∀ {l m : List (Ev T)}, EvsOk E X (l ++ m) → EvsOk E X l ∧ EvsOk E X m
  | [], m, h => ⟨.nil, h⟩
  | _ :: l, m, h => by
    cases h with
    | call h k => exact ⟨.call h k.append.1, k.append.2⟩
    | same k => exact ⟨.same k.append.1, k.append.2⟩
abbrev Rt {K : Type} (T : K → Type) := V T × List (Ob T)
/-- 'ans' says for each call of the functions of S, one after another, whether it is answered, and how. -/
def evalH (E : Env T) (S : Nat → Bool) : Nat → List (Option (Rt T)) → Cfg T → Option (Rt T × List (Ev T) × List (Option (Rt T)))
  | 0, _, _ => none
  | n + 1, ans, c => match step E c with
    | .go c => evalH E S n ans c
    | .need b c => match b with
      | true => evalH E S n ans c
      | false => none
    | .br b c d => match b with
      | true => evalH E S n ans c
      | false => evalH E S n ans d
    | .fork b c d => match b with
      | true => match evalH E S n ans d with
        | none => none
        | some (r, tr, ans) => match evalH E S n ans c with
          | none => none
          | some (s, tr', ans) => some (r, .same s r :: (tr ++ tr'), ans)
      | false => evalH E S n ans d
    | .call f args obs k => match (match S f with
        | true => match ans with
          | [] => (none, [])
          | a :: ans => (a, ans)
        | false => (none, ans)) with
      | (some (v, st), ans) => match evalH E S n ans (k v st) with
          | some (r, tr, ans) => some (r, .call f args obs (v, st) :: tr, ans)
          | none => none
      | (none, ans) => match entry E f args obs with
        | none => none
        | some e => match evalH E S n ans e with
          | none => none
          | some ((v, st), tr, ans) => match evalH E S n ans (k v st) with
            | some (r, tr', ans) => some (r, tr ++ tr', ans)
            | none => none
    | .ret v st => some ((v, st), [], ans)
    | .cut c => evalH E S n ans c
    | .stuck => none
theorem evalH_runs {E : Env T} {X : Nat → List (V T) → List (Ob T) → V T → List (Ob T) → Prop} {S : Nat → Bool} :
    ∀ (n : Nat) (ans : List (Option (Rt T))) (c : Cfg T) {v : V T} {st : List (Ob T)} {tr : List (Ev T)} {rest : List (Option (Rt T))}, evalH E S n ans c = some ((v, st), tr, rest) →
      EvsOk E X tr → Runs E X c v st
  | 0, ans, c, v, st, tr, rest, h, _ => by simp [evalH] at h
  | n + 1, ans, c, v, st, tr, rest, h, hx => by
    unfold evalH at h
    split at h
    · rename_i hs; exact .go hs (evalH_runs n _ _ h hx)
    · rename_i hs
      split at h
      · exact .need hs (evalH_runs n _ _ h hx)
      · cases h
    · rename_i hs
      split at h
      · exact .br hs (fun _ => evalH_runs n _ _ h hx) (fun hb => by cases hb)
      · exact .br hs (fun hb => by cases hb) (fun _ => evalH_runs n _ _ h hx)
    · rename_i hs
      split at h
      · split at h
        · cases h
        · rename_i hd
          split at h
          · cases h
          · rename_i hc
            simp only [Option.some.injEq, Prod.mk.injEq] at h
            obtain ⟨rfl, rfl, rfl⟩ := h
            cases hx with
            | same k => exact .fork hs (evalH_runs n _ _ hd k.append.1) (fun _ => evalH_runs n _ _ hc k.append.2)
      · exact .fork hs (evalH_runs n _ _ h hx) (fun hb => by cases hb)
    · rename_i hs
      split at h
      · split at h
        · rename_i hr
          simp only [Option.some.injEq, Prod.mk.injEq] at h
          obtain ⟨⟨rfl, rfl⟩, rfl, rfl⟩ := h
          cases hx with
          | call hc k =>
            rcases hc with hc | ⟨e, he2, hr2⟩
            · exact .ext hs hc (evalH_runs n _ _ hr k)
            · exact .enter hs he2 hr2 (evalH_runs n _ _ hr k)
        · cases h
      · split at h
        · cases h
        · rename_i he
          split at h
          · cases h
          · rename_i hr
            split at h
            · rename_i hr2
              simp only [Option.some.injEq, Prod.mk.injEq] at h
              obtain ⟨⟨rfl, rfl⟩, rfl, rfl⟩ := h
              exact .enter hs he (evalH_runs n _ _ hr hx.append.1) (evalH_runs n _ _ hr2 hx.append.2)
            · cases h
    · rename_i hs
      simp only [Option.some.injEq, Prod.mk.injEq] at h
      obtain ⟨⟨rfl, rfl⟩, rfl, rfl⟩ := h
      exact .ret hs
    · rename_i hs; exact .cut hs (evalH_runs n _ _ h hx)
    · cases h
def inL (n : Nat) : List Nat → Bool
  | [] => false
  | m :: l => match Nat.beq m n with
    | true => true
    | false => inL n l
/-- A call's run, with some calls answered. -/
def callH (E : Env T) (S : List Nat) (n : Nat) (ans : List (Option (Rt T))) (f : Nat) (args : List (V T)) (obs : List (Ob T)) : Option (Rt T × List (Ev T) × List (Option (Rt T))) :=
  match entry E f args obs with
  | some e => evalH E (fun g => inL g S) n ans e
  | none => none
theorem calld_H {E : Env T} {X : Nat → List (V T) → List (Ob T) → V T → List (Ob T) → Prop} {S : List Nat} {n : Nat} {ans : List (Option (Rt T))} {f : Nat} {args : List (V T)} {obs : List (Ob T)} {r : Rt T} {tr : List (Ev T)} {rest : List (Option (Rt T))}
    (h : callH E S n ans f args obs = some (r, tr, rest)) (k : EvsOk E X tr) : Calld E X f args obs r.1 r.2 := by
  unfold callH at h
  split at h
  · rename_i e he
    exact .inr ⟨e, he, evalH_runs n ans e h k⟩
  · cases h
/-- As far as the function's cut number m. -/
def segH (E : Env T) (S : Nat → Bool) : Nat → Nat → List (Option (Rt T)) → Cfg T → Option (Cfg T × List (Ev T) × List (Option (Rt T)))
  | 0, _, _, _ => none
  | n + 1, m, ans, c => match step E c with
    | .go c => segH E S n m ans c
    | .need b c => match b with
      | true => segH E S n m ans c
      | false => none
    | .br b c d => match b with
      | true => segH E S n m ans c
      | false => segH E S n m ans d
    | .fork b c d => match b with
      | true => none
      | false => segH E S n m ans d
    | .call f args obs k => match (match S f with
        | true => match ans with
          | [] => (none, [])
          | a :: ans => (a, ans)
        | false => (none, ans)) with
      | (some (v, st), ans) => match segH E S n m ans (k v st) with
          | some (r, tr, ans) => some (r, .call f args obs (v, st) :: tr, ans)
          | none => none
      | (none, ans) => match entry E f args obs with
        | none => none
        | some e => match evalH E S n ans e with
          | none => none
          | some ((v, st), tr, ans) => match segH E S n m ans (k v st) with
            | some (r, tr', ans) => some (r, tr ++ tr', ans)
            | none => none
    | .ret v st => none
    | .cut c => match m with
      | 0 => some (c, [], ans)
      | m + 1 => segH E S n m ans c
    | .stuck => none
theorem segH_runs {E : Env T} {X : Nat → List (V T) → List (Ob T) → V T → List (Ob T) → Prop} {S : Nat → Bool} {v : V T} {st : List (Ob T)} :
    ∀ (n m : Nat) (ans : List (Option (Rt T))) (c : Cfg T) {c' : Cfg T} {tr : List (Ev T)} {rest : List (Option (Rt T))}, segH E S n m ans c = some (c', tr, rest) →
      EvsOk E X tr → Runs E X c' v st → Runs E X c v st
  | 0, m, ans, c, c', tr, rest, h, _, _ => by simp [segH] at h
  | n + 1, m, ans, c, c', tr, rest, h, hx, hr => by
    unfold segH at h
    split at h
    · rename_i hs; exact .go hs (segH_runs n m _ _ h hx hr)
    · rename_i hs
      split at h
      · exact .need hs (segH_runs n m _ _ h hx hr)
      · cases h
    · rename_i hs
      split at h
      · exact .br hs (fun _ => segH_runs n m _ _ h hx hr) (fun hb => by cases hb)
      · exact .br hs (fun hb => by cases hb) (fun _ => segH_runs n m _ _ h hx hr)
    · rename_i hs
      split at h
      · cases h
      · exact .fork hs (segH_runs n m _ _ h hx hr) (fun hb => by cases hb)
    · rename_i hs
      split at h
      · split at h
        · rename_i hr1
          simp only [Option.some.injEq, Prod.mk.injEq] at h
          obtain ⟨rfl, rfl, rfl⟩ := h
          cases hx with
          | call hc k =>
            rcases hc with hc | ⟨e, he2, hr2⟩
            · exact .ext hs hc (segH_runs n m _ _ hr1 k hr)
            · exact .enter hs he2 hr2 (segH_runs n m _ _ hr1 k hr)
        · cases h
      · split at h
        · cases h
        · rename_i he
          split at h
          · cases h
          · rename_i hr1
            split at h
            · rename_i hr2
              simp only [Option.some.injEq, Prod.mk.injEq] at h
              obtain ⟨rfl, rfl, rfl⟩ := h
              exact .enter hs he (evalH_runs n _ _ hr1 hx.append.1) (segH_runs n m _ _ hr2 hx.append.2 hr)
            · cases h
    · cases h
    · rename_i hs
      split at h
      · simp only [Option.some.injEq, Prod.mk.injEq] at h
        obtain ⟨rfl, rfl, rfl⟩ := h
        exact .cut hs hr
      · exact .cut hs (segH_runs n _ _ _ h hx hr)
    · cases h
def callS (E : Env T) (S : List Nat) (n m : Nat) (ans : List (Option (Rt T))) (f : Nat) (args : List (V T)) (obs : List (Ob T)) : Option (Cfg T × List (Ev T) × List (Option (Rt T))) :=
  match entry E f args obs with
  | some e => segH E (fun g => inL g S) n m ans e
  | none => none
theorem calld_S {E : Env T} {X : Nat → List (V T) → List (Ob T) → V T → List (Ob T) → Prop} {S : List Nat} {n m : Nat} {ans : List (Option (Rt T))} {f : Nat} {args : List (V T)} {obs : List (Ob T)} {r : Rt T} {tr : List (Ev T)} {rest : List (Option (Rt T))} {c' : Cfg T}
    (h : callS E S n m ans f args obs = some (c', tr, rest)) (k : EvsOk E X tr) (hr : Runs E X c' r.1 r.2) : Calld E X f args obs r.1 r.2 := by
  unfold callS at h
  split at h
  · rename_i e he
    exact .inr ⟨e, he, segH_runs n m ans e h k hr⟩
  · cases h
theorem runs_S {E : Env T} {X : Nat → List (V T) → List (Ob T) → V T → List (Ob T) → Prop} {S : List Nat} {n m : Nat} {ans : List (Option (Rt T))} {c c' : Cfg T} {r : Rt T} {tr : List (Ev T)} {rest : List (Option (Rt T))}
    (h : segH E (fun g => inL g S) n m ans c = some (c', tr, rest)) (k : EvsOk E X tr) (hr : Runs E X c' r.1 r.2) : Runs E X c r.1 r.2 := segH_runs n m ans c h k hr
theorem runs_H {E : Env T} {X : Nat → List (V T) → List (Ob T) → V T → List (Ob T) → Prop} {S : List Nat} {n : Nat} {ans : List (Option (Rt T))} {c : Cfg T} {r : Rt T} {tr : List (Ev T)} {rest : List (Option (Rt T))}
    (h : evalH E (fun g => inL g S) n ans c = some (r, tr, rest)) (k : EvsOk E X tr) : Runs E X c r.1 r.2 := evalH_runs n ans c h k
end Go.Proofs.YtnenfgpjedddoaaGreat.AI
