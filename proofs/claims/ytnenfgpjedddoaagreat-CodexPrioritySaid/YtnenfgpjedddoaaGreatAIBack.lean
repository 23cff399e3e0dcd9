/- Objects come back from a call. -/
import Derived.Test.YtnenfgpjedddoaaGreatAIPack
import Derived.Test.YtnenfgpjedddoaaGreatAIOps13
set_option linter.unusedVariables false
set_option linter.unusedSectionVars false
set_option linter.unusedSimpArgs false
namespace Go.Proofs.YtnenfgpjedddoaaGreat.AI
open Go

variable {K : Type} [DecidableEq K] {T : K → Type} {E : Env T} {P : Program}

/-- Where each object goes. -/
def Moved (M M' : List Loc) (f : Nat → Option Nat) (h : Nat → Nat) : Prop := ∀ (i k : Nat) (l : Loc), f i = some k → M[i]? = some l → M'[k]? = some (l.at fun v => h i + v)
section
variable {g : Gh} {M' : List Loc} {f : Nat → Option Nat} {h : Nat → Nat}
mutual
theorem rep_back (hM : Moved g.M M' f h) : ∀ {v : V T} {x : Value}, Rep E g v x → ∀ {v' : V T}, v.ren f h = some v' → Rep E ⟨g.G, M'⟩ v' x
  | _, _, .fc hh, v', hv => by
    cases hh <;> simp only [V.ren, Own.ren, Option.some.injEq] at hv <;> subst hv
    · exact .fc (.int _ _)
    · exact .fc (.bool _)
    · exact .fc (.str _)
    · exact .fc (.sl0 _)
    · exact .fc (.sle _ _ _)
    · rename_i hc h hz
      exact .fc (.sl _ _ _ _ _ _ hc h hz)
  | _, _, .slnil e, v', hv => by
    simp only [V.ren, Own.ren, Option.some.injEq] at hv; subst hv; exact .slnil e
  | _, _, .slfull h, v', hv => by
    simp only [V.ren, Own.ren, Option.some.injEq] at hv; subst hv; exact .slfull h
  | _, _, .sltok (i := i) (ver := ver) (ver' := ver') hh hm hle he, v', hv => by
    simp only [V.ren, Own.ren, Option.some.injEq] at hv
    cases hp : f i with
    | none =>
      rw [hp] at hv
      subst hv
      exact .fc hh
    | some k =>
      rw [hp] at hv
      subst hv
      exact .sltok hh (hM _ _ _ hp hm) (Nat.add_le_add_left hle _) fun e => he (Nat.add_left_cancel e)
  | _, _, .nsl, v', hv => by
    simp only [V.ren, Option.some.injEq] at hv; subst hv; exact .nsl
  | _, _, .agg hh h1, v', hv => by
    simp only [V.ren] at hv
    split at hv
    · rename_i k hk
      simp only [Option.some.injEq] at hv
      subst hv
      exact .agg (reps_back hM hh hk) h1
    · cases hv
  | _, _, .ptr hm, v', hv => by
    simp only [V.ren] at hv
    split at hv
    · rename_i k hk
      simp only [Option.some.injEq] at hv
      subst hv
      exact .ptr (hM _ _ _ hk hm)
    · cases hv
  | _, _, .npt, v', hv => by
    simp only [V.ren, Option.some.injEq] at hv; subst hv; exact .npt
  | _, _, .adr h hz, v', hv => by
    simp only [V.ren, Option.some.injEq] at hv; subst hv; exact .adr h hz
  | _, _, .asl hm, v', hv => by
    simp only [V.ren] at hv
    split at hv
    · rename_i k hk
      simp only [Option.some.injEq] at hv
      subst hv
      exact .asl (hM _ _ _ hk hm)
    · cases hv
  | _, _, .elt hm hj, v', hv => by
    simp only [V.ren] at hv
    split at hv
    · rename_i k hk
      simp only [Option.some.injEq] at hv
      subst hv
      exact .elt (hM _ _ _ hk hm) hj
    · cases hv
  | _, _, .map hm, v', hv => by
    simp only [V.ren] at hv
    split at hv
    · rename_i k hk
      simp only [Option.some.injEq] at hv
      subst hv
      exact .map (hM _ _ _ hk hm)
    · cases hv
  | _, _, .nmp, v', hv => by
    simp only [V.ren, Option.some.injEq] at hv; subst hv; exact .nmp
  | _, _, .fn ha hc, v', hv => by
    simp only [V.ren] at hv
    split at hv
    · rename_i a c h1 h2
      simp only [Option.some.injEq] at hv
      subst hv
      exact .fn (reps_back hM ha h1) (reps_back hM hc h2)
    · cases hv
  | _, _, .nfn, v', hv => by
    simp only [V.ren, Option.some.injEq] at hv; subst hv; exact .nfn
  | _, _, .ifc hh, v', hv => by
    simp only [V.ren] at hv
    split at hv
    · rename_i k hk
      simp only [Option.some.injEq] at hv
      subst hv
      exact .ifc (rep_back hM hh hk)
    · cases hv
  | _, _, .nif, v', hv => by
    simp only [V.ren, Option.some.injEq] at hv; subst hv; exact .nif
  | _, _, .tup hh, v', hv => by
    simp only [V.ren] at hv
    split at hv
    · rename_i k hk
      simp only [Option.some.injEq] at hv
      subst hv
      exact .tup (reps_back hM hh hk)
    · cases hv
  | _, _, .stamp hm hk hb, v', hv => by
    simp only [V.ren] at hv
    split at hv
    · rename_i i k h1 h2
      simp only [Option.some.injEq] at hv
      subst hv
      exact .stamp (hM _ _ _ h1 hm) (rep_back hM hk h2) hb
    · cases hv
  | _, _, .itr hm, v', hv => by
    simp only [V.ren] at hv
    split at hv
    · rename_i k hk
      simp only [Option.some.injEq] at hv
      subst hv
      exact .itr (hM _ _ _ hk hm)
    · cases hv
  | _, _, .und, v', hv => by
    simp only [V.ren, Option.some.injEq] at hv; subst hv; exact .und
theorem reps_back (hM : Moved g.M M' f h) : ∀ {vs : List (V T)} {xs : List Value}, Reps E g vs xs → ∀ {vs' : List (V T)}, V.ren.rens f h vs = some vs' → Reps E ⟨g.G, M'⟩ vs' xs
  | _, _, .nil, vs', hv => by
    simp only [V.ren.rens, Option.some.injEq] at hv; subst hv; exact .nil
  | _, _, .cons hh hs, vs', hv => by
    simp only [V.ren.rens] at hv
    split at hv
    · rename_i h1 h2
      simp only [Option.some.injEq] at hv
      subst hv
      exact .cons (rep_back hM hh h1) (reps_back hM hs h2)
    · cases hv
end
theorem ob_back {st : List (Ob T)} {w : World} (hi : Inv E g st w) (hM : Moved g.M M' f h) {i : Nat} {o o' : Ob T} {l : Loc} (ho : st[i]? = some o) (hl : g.M[i]? = some l) (hr : o.ren f h i = some o') :
    ObOk E ⟨g.G, M'⟩ w o' (l.at fun v => h i + v) := by
  have hok := hi.obs i o l ho hl
  cases o <;> simp only [Ob.ren, Option.some.injEq] at hr <;> cases l <;> simp only [ObOk] at hok
  case box.box t cs b =>
    split at hr
    · rename_i cs' hcs
      simp only [Option.some.injEq] at hr
      subst hr
      obtain ⟨vs, h1, h2, h3, h4⟩ := hok
      exact ⟨vs, h1, reps_back hM h2 hcs, h3, h4⟩
    · cases hr
  case arr.arr => subst hr; exact hok
  case fro.arr => subst hr; exact hok
  case vec.vec =>
    subst hr
    exact ⟨by rw [hok.1], hok.2.1, hok.2.2.1, hok.2.2.2⟩
  case map.map =>
    subst hr
    obtain ⟨es, clock, h1, h2, h3⟩ := hok
    exact ⟨es, clock, h1, ents_le (g := g) (g' := ⟨g.G, M'⟩) rfl h2, h3⟩
  case iter.iter => subst hr; exact hok
  case dead.none => cases hr
end

/-! ### Things put at places -/
def puts {α : Type} : List Nat → List α → List α → List α
  | i :: is, o :: os, st => puts is os (st.set i o)
  | _, _, st => st
theorem putAll_eq : ∀ (is : List Nat) (os st : List (Ob T)), putAll is os st = puts is os st
  | [], _, _ => by simp [putAll, puts]
  | _ :: _, [], _ => by simp [putAll, puts]
  | i :: is, o :: os, st => by simpa [putAll, puts] using putAll_eq is os (st.set i o)
theorem puts_length {α : Type} : ∀ (is : List Nat) (os st : List α), (puts is os st).length = st.length
  | [], _, _ => by simp [puts]
  | _ :: _, [], _ => by simp [puts]
  | i :: is, o :: os, st => by simp [puts, puts_length is os]
theorem puts_out {α : Type} : ∀ (is : List Nat) (os st : List α) (i : Nat), (∀ (k : Nat), k < os.length → is[k]? ≠ some i) → (puts is os st)[i]? = st[i]?
  | [], _, _, _, _ => by simp [puts]
  | _ :: _, [], _, _, _ => by simp [puts]
  | j :: is, o :: os, st, i, h => by
    simp only [puts]
    rw [puts_out is os _ i (fun k hk => by simpa using h (k + 1) (by simpa using hk))]
    have := h 0 (by simp)
    simp only [List.getElem?_cons_zero, ne_eq, Option.some.injEq] at this
    exact List.getElem?_set_ne this
theorem puts_in {α : Type} : ∀ (is : List Nat) (os st : List α) (i k : Nat) (o : α), is.Nodup → is[k]? = some i → os[k]? = some o → i < st.length → (puts is os st)[i]? = some o
  | [], _, _, _, _, _, _, hk, _, _ => by simp at hk
  | _ :: _, [], _, _, _, _, _, _, ho, _ => by simp at ho
  | j :: is, o' :: os, st, i, 0, o, hn, hk, ho, hi => by
    simp only [List.getElem?_cons_zero, Option.some.injEq] at hk ho
    subst hk; subst ho
    simp only [puts]
    rw [puts_out is os _ j (fun k _ he => (List.nodup_cons.1 hn).1 (List.mem_of_getElem? he))]
    simp [hi]
  | j :: is, o' :: os, st, i, k + 1, o, hn, hk, ho, hi => by
    simp only [puts]
    exact puts_in is os _ i k o (List.nodup_cons.1 hn).2 (by simpa using hk) (by simpa using ho) (by simpa using hi)

/-- What a function that was called leaves. -/
structure Left (E : Env T) (g : Gh) (w : World) (g' : Gh) (obs' : List (Ob T)) (w' : World) : Prop where
  inv : Inv E g' obs' w'
  ext : Ext g g' w w'
  kin : ∀ (i : Nat) (l : Loc), g.M[i]? = some l → ∃ l', g'.M[i]? = some l' ∧ l.Kin l'

section
variable {g g2 g2' : Gh} {st obs obs' obs'' : List (Ob T)} {w w' : World} {ids pos : List Nat} {f : Nat → Option Nat}
theorem back_ok (hi : Inv E g st w) (hP : Picked g.M ids g2.M) (hG : g2.G = g.G) (hown : ∀ b, g2.owns b → ∃ i l, i ∈ ids ∧ g.M[i]? = some l ∧ l.block = some b) (hL : Left E g2 w g2' obs' w')
    (hpos : ∀ (k : Nat), k < obs'.length → f k = pos[k]?) (hpre : ∀ (k i : Nat), ids[k]? = some i → pos[k]? = some i) (hnd : pos.Nodup) (hlen : obs'.length ≤ pos.length) (hin : ∀ i ∈ pos, i < st.length)
    (hdead : ∀ (k i : Nat), ids.length ≤ k → pos[k]? = some i → st[i]? = some .dead)
    (hobs : obsAt obs' f (verOf st ids) (List.range obs'.length) = some obs'') {v v' : V T} {x : Value} (hv : v.ren f (verOf st ids) = some v') (hr : Rep E g2' v x) :
    ∃ g3, To E g w g3 (putAll pos obs'' st) w' ∧ Rep E g3 v' x := by
  have hl2 := hL.inv.len
  let locs : List Loc := (List.range obs'.length).map fun k => ((g2'.M.getD k .none).at fun u => verOf st ids k + u)
  have hlocs : ∀ (k : Nat) (l : Loc), g2'.M[k]? = some l → locs[k]? = some (l.at fun u => verOf st ids k + u) := fun k l hk => by
    have hlt : k < obs'.length := by rw [← hl2]; exact (List.getElem?_eq_some_iff.1 hk).1
    simp [locs, hlt, hk]
  have hlen2 : locs.length = obs'.length := by simp [locs]
  have hgl : g.M.length = st.length := hi.len
  have hM3in : ∀ (k i : Nat) (l : Loc), pos[k]? = some i → g2'.M[k]? = some l → (puts pos locs g.M)[i]? = some (l.at fun u => verOf st ids k + u) := fun k i l hk hl =>
    puts_in pos locs g.M i k _ hnd hk (hlocs k l hl) (by rw [hgl]; exact hin i (List.mem_of_getElem? hk))
  have hM : Moved g2'.M (puts pos locs g.M) f (verOf st ids) := fun k i l hf hl => by
    have hlt : k < obs'.length := by rw [← hl2]; exact (List.getElem?_eq_some_iff.1 hl).1
    rw [hpos k hlt] at hf
    exact hM3in k i l hf hl
  obtain ⟨hol, hog⟩ := obsAt_get hobs
  rw [List.length_range] at hol
  -- each place of the new row: an object that comes back, or an old one
  have hcase : ∀ (i : Nat), (∃ k, k < obs'.length ∧ pos[k]? = some i) ∨ (∀ (k : Nat), k < obs'.length → pos[k]? ≠ some i) := fun i => by
    by_cases h : ∃ k, k < obs'.length ∧ pos[k]? = some i
    · exact .inl h
    · exact .inr fun k hk he => h ⟨k, hk, he⟩
  have hkl : ∀ (k i : Nat), ids[k]? = some i → k < obs'.length := fun k i hk => by
    obtain ⟨l, h1, h2⟩ := hP.2 k i hk
    obtain ⟨l', h3, _⟩ := hL.kin k _ h2
    rw [← hl2]
    exact (List.getElem?_eq_some_iff.1 h3).1
  have hnotin : ∀ (i : Nat), (∀ (k : Nat), k < obs'.length → pos[k]? ≠ some i) → i ∉ ids := fun i h hm => by
    obtain ⟨k, hlt, hk⟩ := List.getElem_of_mem hm
    have hk' : ids[k]? = some i := by simp [hlt, hk]
    exact h k (hkl k i hk') (hpre k i hk')
  have hMle : g.Le ⟨g2'.G, puts pos locs g.M⟩ := by
    refine ⟨?_, fun i l hl => ?_⟩
    · have := hL.ext.G
      rw [hG] at this
      exact this
    · rcases hcase i with ⟨k, hk, hp⟩ | hno
      · have hk2 : k < g2'.M.length := by rw [hl2]; exact hk
        refine ⟨_, hM3in k i g2'.M[k] hp (by simp [hk2]), ?_⟩
        by_cases hki : k < ids.length
        · have hid : ids[k]? = some ids[k] := by simp [hki]
          have hpi := hpre k _ hid
          rw [hp] at hpi
          simp only [Option.some.injEq] at hpi
          obtain ⟨l0, h1, h2⟩ := hP.2 k _ hid
          rw [← hpi, hl] at h1
          cases h1
          obtain ⟨l', h3, h4⟩ := hL.kin k _ h2
          have h3' : g2'.M[k] = l' := by
            have : g2'.M[k]? = some g2'.M[k] := by simp [hk2]
            rw [h3] at this; cases this; rfl
          rw [h3']
          cases l with
          | vec ver a n cap m =>
            cases l' with
            | vec ver2 a2 n2 cap2 m2 =>
              have hst : i < st.length := by rw [← hgl]; exact (List.getElem?_eq_some_iff.1 hl).1
              have hob := hi.obs i st[i] _ (by simp [hst]) hl
              have hv : verOf st ids k = ver + 1 := by
                unfold verOf
                rw [hid, ← hpi]
                dsimp only
                have : st[i]? = some st[i] := by simp [hst]
                rw [this]
                cases hsi : st[i] <;> rw [hsi] at hob <;> simp only [ObOk] at hob
                simp [hob.1]
              simp only [Loc.Le, Loc.at]
              refine ⟨by omega, fun h => by omega⟩
            | _ => exact absurd h4 (by simp [Loc.Kin, Loc.at])
          | none => trivial
          | box b => cases l' <;> simp only [Loc.Kin, Loc.at] at h4 <;> first | exact h4 | cases h4
          | arr b n sz => cases l' <;> simp only [Loc.Kin, Loc.at] at h4 <;> first | exact h4 | cases h4
          | map r bs => cases l' <;> simp only [Loc.Kin, Loc.at] at h4 <;> first | exact h4 | cases h4
          | iter r => cases l' <;> simp only [Loc.Kin, Loc.at] at h4 <;> first | exact h4 | cases h4
        · have hd := hdead k i (by omega) hp
          have hn := hi.dead_loc hd
          rw [hl] at hn
          cases hn
          trivial
      · exact ⟨l, by rw [puts_out _ _ _ _ (by rw [hlen2]; exact hno)]; exact hl, .refl _⟩
  have hkeep : ∀ b, b < w.heap.size → ¬ g2.owns b → w'.heap[b]? = w.heap[b]? ∧ ∀ off, g2'.G b off = g.G b off := fun b hb hn => by
    have := hL.ext.keeps b hb hn
    rw [hG] at this
    exact this
  have hold : ∀ (i : Nat) (l : Loc) (b : Nat), (∀ (k : Nat), k < obs'.length → pos[k]? ≠ some i) → g.M[i]? = some l → l.block = some b → ¬ g2.owns b := fun i l b hno hl hb ho => by
    obtain ⟨i', l', h1, h2, h3⟩ := hown b ho
    have := hi.apart i i' l l' b hl h2 hb h3
    subst this
    exact hnotin i hno h1
  have hnewown : ∀ (k : Nat) (l : Loc) (b : Nat), g2'.M[k]? = some l → l.block = some b → g2.owns b ∨ w.heap.size ≤ b := fun k l b hk hb => hL.ext.own b ⟨k, l, hk, hb⟩
  have hM3 : ∀ (i : Nat) (l : Loc), (puts pos locs g.M)[i]? = some l → (∃ k l0, k < obs'.length ∧ pos[k]? = some i ∧ g2'.M[k]? = some l0 ∧ l = l0.at fun u => verOf st ids k + u) ∨ ((∀ (k : Nat), k < obs'.length → pos[k]? ≠ some i) ∧ g.M[i]? = some l) := fun i l hl => by
    rcases hcase i with ⟨k, hk, hp⟩ | hno
    · have hk2 : k < g2'.M.length := by rw [hl2]; exact hk
      have := hM3in k i g2'.M[k] hp (by simp [hk2])
      rw [hl] at this
      cases this
      exact .inl ⟨k, _, hk, hp, by simp [hk2], rfl⟩
    · rw [puts_out _ _ _ _ (by rw [hlen2]; exact hno)] at hl
      exact .inr ⟨hno, hl⟩
  refine ⟨⟨g2'.G, puts pos locs g.M⟩, ⟨hMle, ⟨hL.inv.froz, ?_, ?_, ?_, ?_, ?_⟩, ⟨?_, hL.ext.os, hL.ext.tape, hL.ext.output, hL.ext.size, ?_, ?_⟩⟩, rep_back hM hr hv⟩
  · rw [putAll_eq, puts_length, puts_length, hgl]
  · intro i ob l hob hl
    rw [putAll_eq] at hob
    rcases hM3 i l hl with ⟨k, l0, hk, hp, hl0, rfl⟩ | ⟨hno, hl0⟩
    · obtain ⟨o, o', h1, h2, h3⟩ := hog k k (by simp [hk])
      rw [puts_in pos obs'' st i k o' hnd hp h3 (hin i (List.mem_of_getElem? hp))] at hob
      cases hob
      exact ob_back hL.inv hM h1 hl0 h2
    · rw [puts_out _ _ _ _ (by rw [hol]; exact hno)] at hob
      exact (hi.obs i ob l hob hl0).mono hMle hL.ext.size fun b hb => hkeep b (hi.lt hl0 hb) (hold i l b hno hl0 hb)
  · intro i j l l' b hli hlj hb hb'
    rcases hM3 i l hli with ⟨k, l0, hk, hp, hl0, rfl⟩ | ⟨hno, hl0⟩ <;> rcases hM3 j l' hlj with ⟨k', l0', hk', hp', hl0', rfl⟩ | ⟨hno', hl0'⟩
    · rw [Loc.at_block] at hb hb'
      have := hL.inv.apart k k' l0 l0' b hl0 hl0' hb hb'
      subst this
      rw [hp] at hp'
      cases hp'
      rfl
    · rw [Loc.at_block] at hb
      rcases hnewown k l0 b hl0 hb with ho | hle
      · exact absurd ho (hold j l' b hno' hl0' hb')
      · exact absurd (hi.lt hl0' hb') (by omega)
    · rw [Loc.at_block] at hb'
      rcases hnewown k' l0' b hl0' hb' with ho | hle
      · exact absurd ho (hold i l b hno hl0 hb)
      · exact absurd (hi.lt hl0 hb) (by omega)
    · exact hi.apart i j l l' b hl0 hl0' hb hb'
  · intro gl cs hgl'
    obtain ⟨vs, a, b⟩ := hi.glob gl cs hgl'
    exact ⟨vs, a.mono hMle.G, b.mono hMle.G⟩
  · intro gl hgl'
    obtain ⟨m, hm⟩ := hi.ints gl hgl'
    exact ⟨m, hMle.G _ _ _ hm⟩
  · exact hMle.G
  · intro b hb hn
    refine hkeep b hb fun ho => hn ?_
    obtain ⟨i, l, _, h2, h3⟩ := hown b ho
    exact ⟨i, l, h2, h3⟩
  · rintro b ⟨i, l, hl, hb⟩
    rcases hM3 i l hl with ⟨k, l0, hk, hp, hl0, rfl⟩ | ⟨hno, hl0⟩
    · rw [Loc.at_block] at hb
      rcases hnewown k l0 b hl0 hb with ho | hle
      · obtain ⟨i', l', _, h2, h3⟩ := hown b ho
        exact .inl ⟨i', l', h2, h3⟩
      · exact .inr hle
    · exact .inl ⟨i, l, hl0, hb⟩
end
end Go.Proofs.YtnenfgpjedddoaaGreat.AI
