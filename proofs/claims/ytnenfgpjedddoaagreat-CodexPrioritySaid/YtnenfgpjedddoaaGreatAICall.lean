/- What a caller does about a call. -/
import Derived.Test.YtnenfgpjedddoaaGreatAIBack
set_option linter.unusedVariables false
set_option linter.unusedSectionVars false
set_option linter.unusedSimpArgs false
namespace Go.Proofs.YtnenfgpjedddoaaGreat.AI
open Go

variable {K : Type} [DecidableEq K] {T : K → Type} {E : Env T} {P : Program}
section
variable {g : Gh} {st : List (Ob T)} {w : World}

mutual
theorem Rep.plain : ∀ {v : V T} {x : Value}, Rep E g v x → Rep E g v.plain x
  | _, _, .fc h => by
    cases h <;> simp only [V.plain]
    · exact .fc (.int _ _)
    · exact .fc (.bool _)
    · exact .fc (.str _)
    · exact .fc (.sl0 _)
    · exact .fc (.sle _ _ _)
    · rename_i hc h hz
      exact .fc (.sl _ _ _ _ _ _ hc h hz)
  | _, _, .slnil e => by simp only [V.plain]; exact .fc (.sl0 e)
  | _, _, .slfull h => by simp only [V.plain]; exact .fc h
  | _, _, .sltok h _ _ _ => by simp only [V.plain]; exact .fc h
  | _, _, .nsl => by simp only [V.plain]; exact .nsl
  | _, _, .agg h h1 => by simp only [V.plain]; exact .agg (Reps.plains h) h1
  | _, _, .ptr h => by simp only [V.plain]; exact .ptr h
  | _, _, .npt => by simp only [V.plain]; exact .npt
  | _, _, .adr a b => by simp only [V.plain]; exact .adr a b
  | _, _, .asl h => by simp only [V.plain]; exact .asl h
  | _, _, .elt h hj => by simp only [V.plain]; exact .elt h hj
  | _, _, .map h => by simp only [V.plain]; exact .map h
  | _, _, .nmp => by simp only [V.plain]; exact .nmp
  | _, _, .fn a b => by simp only [V.plain]; exact .fn a b
  | _, _, .nfn => by simp only [V.plain]; exact .nfn
  | _, _, .ifc h => by simp only [V.plain]; exact .ifc h
  | _, _, .nif => by simp only [V.plain]; exact .nif
  | _, _, .tup h => by simp only [V.plain]; exact .tup (Reps.plains h)
  | _, _, .stamp a b c => by simp only [V.plain]; exact .stamp a b c
  | _, _, .itr h => by simp only [V.plain]; exact .itr h
  | _, _, .und => by simp only [V.plain]; exact .und
theorem Reps.plains : ∀ {vs : List (V T)} {xs : List Value}, Reps E g vs xs → Reps E g (V.plain.plains vs) xs
  | _, _, .nil => .nil
  | _, _, .cons a b => .cons (Rep.plain a) (Reps.plains b)
end

theorem thaw_ok (hE : EnvOk P E) (hi : Inv E g st w) {v v' : V T} {x : Value} {st' : List (Ob T)} (hr : Rep E g v x) (h : thaw st v = some (v', st')) : ∃ g', To E g w g' st' w ∧ Rep E g' v' x := by
  unfold thaw at h
  split at h
  · rename_i i
    obtain ⟨b, n, sz, hM, rfl⟩ := hr.asl_inv
    split at h
    · rename_i e xs hob
      simp only [Option.some.injEq, Prod.mk.injEq] at h
      obtain ⟨rfl, rfl⟩ := h
      obtain ⟨rfl, rfl, hn, vs, hh, hl, hel⟩ := hi.obs i _ _ hob hM
      have hG : GLe g.G (plus g.G b 0 vs) := plus_le fun o' _ _ => hn o'
      have hels : Elems E g.G e xs vs := ⟨hl, hel⟩
      have hfc : Fc E (plus g.G b 0 vs) (.sl e xs .no) (.slice (some ⟨b, 0, none⟩) xs.length xs.length) := (hels.mono hG).fc (plus_fz _ _ _ _) (Nat.le_refl _)
      have hset := set_same hM
      have hstep := hi.step (w' := w) (ob' := .fro e xs) (l' := .arr b xs.length (E.size (E.num e))) (G' := plus g.G b 0 vs) hob hM (.refl _) hG
        (fun b' off v hv => by
          by_cases hb : b' = b
          · subst hb
            unfold plus at hv
            split at hv
            · rename_i hc
              rw [cell?_cells hh]
              simpa using hv
            · rw [hn] at hv; cases hv
          · rw [plus_other hb] at hv
            exact hi.froz _ _ _ hv) rfl rfl rfl (Nat.le_refl _) (fun b' _ hne => ⟨rfl, fun off => plus_other fun e => hne (by rw [e]; rfl)⟩) (fun b' hb => .inl hb)
        ⟨rfl, rfl, heap_lt hh, hfc⟩
      exact ⟨_, ⟨hstep.2.2, hstep.1, hstep.2.1⟩, .fc hfc⟩
    · rename_i e xs hob
      simp only [Option.some.injEq, Prod.mk.injEq] at h
      obtain ⟨rfl, rfl⟩ := h
      obtain ⟨rfl, rfl, hb, hfc⟩ := hi.obs i _ _ hob hM
      exact ⟨g, .refl hi, .fc hfc⟩
    · cases h
  · simp only [Option.some.injEq, Prod.mk.injEq] at h
    obtain ⟨rfl, rfl⟩ := h
    exact ⟨g, .refl hi, hr⟩
theorem handOver_ok (hE : EnvOk P E) : ∀ {args : List (V T)} {bs : List Bool} {g : Gh} {st st' : List (Ob T)} {args' : List (V T)} {xs : List Value}, Inv E g st w → Reps E g args xs → handOver st bs args = some (args', st') →
    ∃ g', To E g w g' st' w ∧ Reps E g' args' xs
  | [], bs, g, st, st', args', xs, hi, hr, h => by
    cases bs with
    | nil =>
      simp only [handOver, Option.some.injEq, Prod.mk.injEq] at h
      obtain ⟨rfl, rfl⟩ := h
      exact ⟨g, .refl hi, hr⟩
    | cons b bs =>
      cases b <;> simp only [handOver, Option.some.injEq, Prod.mk.injEq] at h <;> obtain ⟨rfl, rfl⟩ := h <;> exact ⟨g, .refl hi, hr⟩
  | v :: vs, bs, g, st, st', args', xs, hi, hr, h => by
    cases hr with
    | cons h1 h2 =>
      have other : ∀ {bs' : List Bool}, (match thaw st v with
          | some (v, st) => match handOver st bs' vs with
            | some (vs, st) => some (v.plain :: vs, st)
            | none => none
          | none => none) = some (args', st') → ∃ g', To E g w g' st' w ∧ Reps E g' args' _ := fun h => by
        split at h
        · rename_i v1 st1 ht
          obtain ⟨g1, k1, k2⟩ := thaw_ok hE hi h1 ht
          split at h
          · rename_i vs2 st2 ho
            simp only [Option.some.injEq, Prod.mk.injEq] at h
            obtain ⟨rfl, rfl⟩ := h
            obtain ⟨g2, k3, k4⟩ := handOver_ok hE k1.inv (h2.mono k1.le) ho
            exact ⟨g2, k1.trans k3, .cons (k2.mono k3.le).plain k4⟩
          · cases h
        · cases h
      cases bs with
      | nil => exact other (bs' := []) (by simp only [handOver, List.tail] at h; exact h)
      | cons b bs =>
        cases b with
        | true =>
          simp only [handOver] at h
          split at h
          · rename_i vs2 st2 ho
            simp only [Option.some.injEq, Prod.mk.injEq] at h
            obtain ⟨rfl, rfl⟩ := h
            obtain ⟨g2, k3, k4⟩ := handOver_ok hE hi h2 ho
            exact ⟨g2, k3, .cons (h1.mono k3.le) k4⟩
          · cases h
        | false => exact other (bs' := bs) (by simp only [handOver, List.tail] at h; exact h)
theorem handOver_same : ∀ {args : List (V T)} {bs : List Bool} {st st' : List (Ob T)} {args' : List (V T)}, noArr args = true → handOver st bs args = some (args', st') → st' = st
  | [], bs, st, st', args', _, h => by
    cases bs with
    | nil =>
      simp only [handOver, Option.some.injEq, Prod.mk.injEq] at h
      exact h.2.symm
    | cons b bs =>
      cases b <;> simp only [handOver, Option.some.injEq, Prod.mk.injEq] at h <;> exact h.2.symm
  | v :: vs, bs, st, st', args', hn, h => by
    have hv : thaw st v = some (v, st) := by
      cases v <;> first | rfl | (simp [noArr] at hn; done)
    have hn' : noArr vs = true := by
      cases v <;> first | exact hn | (simp [noArr] at hn; done)
    have other : ∀ {bs' : List Bool}, (match thaw st v with
        | some (v, st) => match handOver st bs' vs with
          | some (vs, st) => some (v.plain :: vs, st)
          | none => none
        | none => none) = some (args', st') → st' = st := fun h => by
      rw [hv] at h
      dsimp only at h
      split at h
      · rename_i ho
        simp only [Option.some.injEq, Prod.mk.injEq] at h
        obtain ⟨rfl, rfl⟩ := h
        exact handOver_same hn' ho
      · cases h
    cases bs with
    | nil => exact other (bs' := []) (by simp only [handOver, List.tail] at h; exact h)
    | cons b bs =>
      cases b with
      | true =>
        simp only [handOver] at h
        split at h
        · rename_i ho
          simp only [Option.some.injEq, Prod.mk.injEq] at h
          obtain ⟨rfl, rfl⟩ := h
          exact handOver_same hn' ho
        · cases h
      | false => exact other (bs' := bs) (by simp only [handOver, List.tail] at h; exact h)

/-- A function, called with these, gives that. -/
def CallOk (P : Program) (E : Env T) (f : Nat) (args : List (V T)) (obs : List (Ob T)) (v : V T) (obs' : List (Ob T)) : Prop :=
  ∀ (g : Gh) (w : World) (xs : List Value), Inv E g obs w → Reps E g args xs → Calls P f ⟨xs⟩ w fun e w' => ∃ x g', e = .returned x ∧ Left E g w g' obs' w' ∧ Rep E g' v x

theorem after_spec {st : List (Ob T)} {base : Nat} {ids : List Nat} {v v' : V T} {obs obs' : List (Ob T)} (h : after st base ids v obs = some (v', obs')) :
    v.ren (backTo base ids) (verOf st ids) = some v' ∧ obsAt obs (backTo base ids) (verOf st ids) (List.range obs.length) = some obs' := by
  unfold after at h
  split at h
  · rename_i h1 h2
    simp only [Option.some.injEq, Prod.mk.injEq] at h
    obtain ⟨rfl, rfl⟩ := h
    exact ⟨h1, h2⟩
  · cases h
theorem backTo_get (base n : Nat) (ids : List Nat) (k : Nat) (hk : k < ids.length + n) : backTo base ids k = (ids ++ List.range' base n)[k]? := by
  unfold backTo
  by_cases h : k < ids.length
  · have : ids[k]? = some ids[k] := by simp [h]
    rw [List.getElem?_append_left h, this]
  · rw [List.getElem?_append_right (by omega), List.getElem?_eq_none (l := ids) (by omega)]
    rw [List.getElem?_range' (by omega)]
    simp

/-- Packed objects, and what comes back, at places that are dead. -/
theorem call_back (hi : Inv E g st w) {args args2 : List (V T)} {xs : List Value} {ids : List Nat} {obs obs' obs2 : List (Ob T)} (hr : Reps E g args xs) (hp : pack st 0 args = some (ids, args2, obs)) {f : Nat} {v v' : V T} (hc : CallOk P E f args2 obs v obs')
    {base n : Nat} (hn : obs'.length ≤ ids.length + n) (hb : ∀ k, k < n → st[base + k]? = some .dead) (ha : after st base ids v obs' = some (v', obs2)) :
    Calls P f ⟨xs⟩ w fun e w' => ∃ x g3, e = .returned x ∧ To E g w g3 (putAll (ids ++ List.range' base n) obs2 st) w' ∧ Rep E g3 v' x := by
  obtain ⟨g2, h1, h2, h3, h4, h5, _, h6, h8, _, h7⟩ := pack_ok hi hp hr
  obtain ⟨a1, a2⟩ := after_spec ha
  refine (hc g2 w xs h3 h4).mono fun e w' ⟨x, g2', he, hL, hx⟩ => ?_
  obtain ⟨g3, k1, k2⟩ := back_ok (pos := ids ++ List.range' base n) hi h2 h1 h7 hL (fun k hk => backTo_get base n ids k (by omega)) (fun k i hk => by
      rw [List.getElem?_append_left (List.getElem?_eq_some_iff.1 hk).1]; exact hk)
    (by
      rw [List.nodup_append]
      refine ⟨h5, List.nodup_range', fun i hi1 j hj he => ?_⟩
      subst he
      obtain ⟨o, ho1, ho2⟩ := h8 i hi1
      rw [List.mem_range'] at hj
      obtain ⟨k, hk, rfl⟩ := hj
      rw [Nat.one_mul, hb k hk] at ho1
      cases ho1
      exact ho2 rfl)
    (by simp; omega) (fun i hm => by
      rcases List.mem_append.1 hm with hm | hm
      · obtain ⟨o, ho1, _⟩ := h8 i hm
        exact (List.getElem?_eq_some_iff.1 ho1).1
      · rw [List.mem_range'] at hm
        obtain ⟨k, hk, rfl⟩ := hm
        rw [Nat.one_mul]
        exact (List.getElem?_eq_some_iff.1 (hb k hk)).1)
    (fun k i hk hp' => by
      rw [List.getElem?_append_right hk] at hp'
      have hlt := (List.getElem?_eq_some_iff.1 hp').1
      rw [List.length_range'] at hlt
      rw [List.getElem?_range' (by omega)] at hp'
      simp only [Nat.one_mul, Option.some.injEq] at hp'
      rw [← hp']
      exact hb _ hlt)
    a2 a1 hx
  exact ⟨x, g3, he, k1, k2⟩

theorem verOf_dead (n : Nat) {ids : List Nat} (h : ∀ i ∈ ids, i < st.length) : verOf (st ++ List.replicate n .dead) ids = verOf st ids := by
  funext k
  unfold verOf
  cases hk : ids[k]? with
  | none => rfl
  | some i =>
    dsimp only
    rw [List.getElem?_append_left (h i (List.mem_of_getElem? hk))]
theorem puts_new {α : Type} (d : α) : ∀ (obs : List α) (st : List α), puts (List.range' st.length obs.length) obs (st ++ List.replicate obs.length d) = st ++ obs
  | [], st => by simp [puts]
  | o :: os, st => by
    simp only [List.length_cons, List.range'_succ, puts, List.replicate_succ]
    have : (st ++ d :: List.replicate os.length d).set st.length o = (st ++ [o]) ++ List.replicate os.length d := by
      rw [List.set_append_right _ _ (Nat.le_refl _)]
      simp
    rw [this]
    have := puts_new d os (st ++ [o])
    rw [List.length_append, List.length_singleton] at this
    rw [this]
    simp
theorem puts_split {α : Type} (d : α) : ∀ (ids : List Nat) (obs st : List α), ids.length ≤ obs.length → (∀ i ∈ ids, i < st.length) →
    puts (ids ++ List.range' st.length (obs.length - ids.length)) obs (st ++ List.replicate (obs.length - ids.length) d) = puts ids obs st ++ obs.drop ids.length
  | [], obs, st, _, _ => by simpa [puts] using puts_new d obs st
  | i :: is, [], st, h, _ => by simp at h
  | i :: is, o :: os, st, h, hi => by
    have hlt : i < st.length := hi i (List.mem_cons_self ..)
    simp only [List.length_cons, Nat.add_sub_add_right, List.cons_append, puts, List.drop_succ_cons]
    rw [List.set_append_left _ _ hlt]
    have := puts_split d is os (st.set i o) (by simpa using h) (fun j hj => by rw [List.length_set]; exact hi j (List.mem_cons_of_mem _ hj))
    rw [List.length_set] at this
    exact this
theorem merge_eq {ids : List Nat} {obs : List (Ob T)} (h : ids.length ≤ obs.length) (hi : ∀ i ∈ ids, i < st.length) :
    merge ids obs st = putAll (ids ++ List.range' st.length (obs.length - ids.length)) obs (st ++ List.replicate (obs.length - ids.length) .dead) := by
  rw [putAll_eq, puts_split .dead ids obs st h hi]
  unfold merge
  cases obs with
  | nil =>
    have : ids = [] := List.eq_nil_of_length_eq_zero (by simpa using h)
    subst this
    simp [puts]
  | cons o os => dsimp only; rw [putAll_eq]

theorem ids_lt (hi : Inv E g st w) {M' : List Loc} {ids : List Nat} (h : Picked g.M ids M') : ∀ i ∈ ids, i < st.length := fun i hm => by
  obtain ⟨k, hlt, hk⟩ := List.getElem_of_mem hm
  obtain ⟨l, h1, _⟩ := h.2 k i (by simp [hlt, hk])
  rw [← hi.len]
  exact (List.getElem?_eq_some_iff.1 h1).1
/-- Packed objects, and what comes back, with new objects at the end. -/
theorem call_new (hi : Inv E g st w) {args args2 : List (V T)} {xs : List Value} {ids : List Nat} {obs obs' obs2 : List (Ob T)} (hr : Reps E g args xs) (hp : pack st 0 args = some (ids, args2, obs)) {f : Nat} {v v' : V T} (hc : CallOk P E f args2 obs v obs')
    (ha : after st st.length ids v obs' = some (v', obs2)) :
    Calls P f ⟨xs⟩ w fun e w' => ∃ x g3, e = .returned x ∧ To E g w g3 (merge ids obs2 st) w' ∧ Rep E g3 v' x := by
  obtain ⟨g2, h1, h2, h3, h4, h5, _, h6, h8, _, h7⟩ := pack_ok hi hp hr
  obtain ⟨a1, a2⟩ := after_spec ha
  have hids := ids_lt hi h2
  refine (hc g2 w xs h3 h4).mono fun e w' ⟨x, g2', he, hL, hx⟩ => ?_
  have hge : ids.length ≤ obs'.length := by
    rw [← hL.inv.len, ← h6, ← h3.len]
    refine Nat.le_of_not_lt fun hlt => ?_
    obtain ⟨l', h9, _⟩ := hL.kin g2'.M.length g2.M[g2'.M.length] (by simp [hlt])
    have := (List.getElem?_eq_some_iff.1 h9).1
    omega
  generalize hn : obs'.length - ids.length = n
  obtain ⟨d1, d2, d3⟩ := hi.dead n
  have hP' : Picked (g.M ++ List.replicate n Loc.none) ids g2.M := ⟨h2.1, fun k i hk => by
    obtain ⟨l, h9, h10⟩ := h2.2 k i hk
    exact ⟨l, by rw [List.getElem?_append_left (List.getElem?_eq_some_iff.1 h9).1]; exact h9, h10⟩⟩
  have hown' : ∀ b, g2.owns b → ∃ i l, i ∈ ids ∧ (g.M ++ List.replicate n Loc.none)[i]? = some l ∧ l.block = some b := fun b hb => by
    obtain ⟨i, l, h9, h10, h11⟩ := h7 b hb
    exact ⟨i, l, h9, by rw [List.getElem?_append_left (List.getElem?_eq_some_iff.1 h10).1]; exact h10, h11⟩
  have hol : obs2.length = obs'.length := by
    have := (obsAt_get a2).1
    rwa [List.length_range] at this
  obtain ⟨g3, k1, k2⟩ := back_ok (g := ⟨g.G, g.M ++ List.replicate n .none⟩) (st := st ++ List.replicate n .dead) (f := backTo st.length ids) (pos := ids ++ List.range' st.length n) d1 hP' h1 hown' hL
    (fun k hk => backTo_get st.length n ids k (by omega)) (fun k i hk => by
      rw [List.getElem?_append_left (List.getElem?_eq_some_iff.1 hk).1]; exact hk)
    (by
      rw [List.nodup_append]
      refine ⟨h5, List.nodup_range', fun i hi1 j hj he => ?_⟩
      subst he
      rw [List.mem_range'] at hj
      obtain ⟨k, hk, rfl⟩ := hj
      have := hids _ hi1
      omega)
    (by simp; omega) (fun i hm => by
      rw [List.length_append, List.length_replicate]
      rcases List.mem_append.1 hm with hm | hm
      · have := hids i hm; omega
      · rw [List.mem_range'] at hm
        obtain ⟨k, hk, rfl⟩ := hm
        omega)
    (fun k i hk hp' => by
      rw [List.getElem?_append_right hk] at hp'
      have hlt := (List.getElem?_eq_some_iff.1 hp').1
      rw [List.length_range'] at hlt
      rw [List.getElem?_range' (by omega)] at hp'
      simp only [Nat.one_mul, Option.some.injEq] at hp'
      rw [← hp', List.getElem?_append_right (by omega), List.getElem?_replicate, if_pos (by omega)])
    (by rw [verOf_dead n hids]; exact a2) (by rw [verOf_dead n hids]; exact a1) hx
  refine ⟨x, g3, he, ?_, k2⟩
  rw [merge_eq (by omega) hids, hol, hn]
  exact (To.mk d3 d1 d2).trans k1
end
end Go.Proofs.YtnenfgpjedddoaaGreat.AI
