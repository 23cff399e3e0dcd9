/- Regions whose order is drawn: operations change places; any order does. -/
import Derived.Test.YtnenfgpjedddoaaGreatAIReg
set_option linter.unusedVariables false
set_option linter.unusedSectionVars false
set_option linter.unusedSimpArgs false
namespace Go.Proofs.YtnenfgpjedddoaaGreat.AI
open Go

variable {K : Type} [DecidableEq K] {T : K → Type} {E : Env T} {P : Program}

/-- What the guard says. -/
def GNo (all : Array Oper) (o : Oper) (fr : Fr T) : Prop := ∃ j want d, o.guard = some (j, want) ∧ (all[j]?).bind (·.dst) = some d ∧ (Fr.get fr d = some (.bool !want) ∨ Fr.get fr d = some .und)
def GYes (all : Array Oper) (o : Oper) (fr : Fr T) : Prop := o.guard = none ∨ ∃ j want d, o.guard = some (j, want) ∧ (all[j]?).bind (·.dst) = some d ∧ Fr.get fr d = some (.bool want)
/-- An operation: what it gives, what it looks at, what it changes. -/
def Does (P : Program) (E : Env T) (all : Array Oper) (p : Nat) (fr : Fr T) (st : List (Ob T)) (o : Oper) (v : Option (V T)) (rd wr : List Nat) (st' : List (Ob T)) : Prop :=
  (GNo all o fr ∧ v = none ∧ rd = [] ∧ wr = [] ∧ st' = st) ∨ (GYes all o fr ∧ ∃ k, opAct E fr o = some k ∧ Res P E p st k rd wr v st')

theorem looks_guard {all : Array Oper} {o : Oper} {j d : Nat} {want : Bool} (hg : o.guard = some (j, want)) (hd : (all[j]?).bind (·.dst) = some d) : d ∈ o.looksAt all := by
  unfold Oper.looksAt
  rw [hg]
  simp [hd]
theorem looks_op {all : Array Oper} {o : Oper} {t : Nat} (h : Operand.tmp t ∈ o.op.operands) : t ∈ o.looksAt all := by
  unfold Oper.looksAt
  exact List.mem_append_left _ (List.mem_filterMap.2 ⟨.tmp t, by simpa using h, rfl⟩)
theorem Does.move {all : Array Oper} {p : Nat} {fr fr' : Fr T} {st t st' : List (Ob T)} {o : Oper} {v : Option (V T)} {rd wr : List Nat} (h : Does P E all p fr st o v rd wr st') (hf : ∀ x ∈ o.looksAt all, Fr.get fr' x = Fr.get fr x)
    (hl : t.length = st.length) (ha : AlikeOn rd st t) : ∃ t', Does P E all p fr' t o v rd wr t' ∧ AlikeOn wr st' t' ∧ (∀ i, i ∉ wr → t'[i]? = t[i]?) ∧ t'.length = t.length := by
  rcases h with ⟨⟨j, want, d, hg, hd, hv⟩, rfl, rfl, rfl, rfl⟩ | ⟨hg, k, hk, hr⟩
  · refine ⟨t, .inl ⟨⟨j, want, d, hg, hd, ?_⟩, rfl, rfl, rfl, rfl⟩, fun i hi => (by cases hi), fun _ _ => rfl, rfl⟩
    rw [hf d (looks_guard hg hd)]; exact hv
  · obtain ⟨t', h1, h2⟩ := hr.move hl ha
    refine ⟨t', .inr ⟨?_, k, ?_, h1⟩, h2⟩
    · rcases hg with hg | ⟨j, want, d, hg, hd, hv⟩
      · exact .inl hg
      · exact .inr ⟨j, want, d, hg, hd, by rw [hf d (looks_guard hg hd)]; exact hv⟩
    · rw [← hk]
      exact opAct_congr o fun x hx => evalO_congr fun t ht => hf t (looks_op (by rw [← ht]; exact hx))
theorem Does.frame {all : Array Oper} {p : Nat} {fr : Fr T} {st st' : List (Ob T)} {o : Oper} {v : Option (V T)} {rd wr : List Nat} (h : Does P E all p fr st o v rd wr st') :
    (∀ i, i ∉ wr → st'[i]? = st[i]?) ∧ st'.length = st.length ∧ ∀ i ∈ wr, i ∈ rd := by
  rcases h with ⟨_, rfl, rfl, rfl, rfl⟩ | ⟨hg, k, hk, hr⟩
  · exact ⟨fun _ _ => rfl, rfl, fun _ h => h⟩
  · exact hr.frame

def FrEq (fr fr' : Fr T) : Prop := ∀ t, Fr.get fr t = Fr.get fr' t
abbrev Sx (T : K → Type) := Fr T × List (Ob T)
structure Lb where
  i : Nat
  o : Oper
  F : Foot
/-- One operation of a region whose order is drawn. -/
def Ex (P : Program) (E : Env T) (all : Array Oper) (n base : Nat) (s : Sx T) (l : Lb) (s' : Sx T) : Prop :=
  ∃ v rd wr, Does P E all (base + 4 * l.i) s.1 s.2 l.o v rd wr s'.2 ∧ l.F = footOf all l.o l.i rd wr ∧ dstOk n l.o.dst = true ∧ FrEq s'.1 (putO s.1 l.o.dst v)

theorem apartS_spec {all : Array Oper} {o o' : Oper} {i i' : Nat} {rd wr rd' wr' : List Nat} (h : apartS (footOf all o i rd wr) (footOf all o' i' rd' wr') = true) :
    (∀ d, o.dst = some d → d ∉ o'.looksAt all ∧ o'.dst ≠ some d) ∧ (∀ d, o'.dst = some d → d ∉ o.looksAt all) := by
  simp only [apartS, footOf, Bool.and_eq_true, Bool.not_eq_true'] at h
  obtain ⟨h1, h2⟩ := h
  have hno : ∀ {d : Nat} {l : List Nat}, has d l = false → d ∉ l := fun hb hm => by rw [has_iff.2 hm] at hb; cases hb
  refine ⟨fun d hd => ?_, fun d hd => ?_⟩
  · rw [hd] at h1
    simp only [Bool.and_eq_true, Bool.not_eq_true'] at h1
    refine ⟨hno h1.1, fun he => ?_⟩
    rw [he] at h1
    simp [Nat.beq_refl] at h1
  · rw [hd] at h2
    simp only [Bool.not_eq_true'] at h2
    exact hno h2
theorem apartO_spec {all : Array Oper} {o o' : Oper} {i i' : Nat} {rd wr rd' wr' : List Nat} (h : apartO (footOf all o i rd wr) (footOf all o' i' rd' wr') = true) :
    (∀ x ∈ wr, x ∉ rd') ∧ (∀ x ∈ wr', x ∉ rd) := by
  simp only [apartO, footOf, Bool.and_eq_true, List.all_eq_true, Bool.not_eq_true'] at h
  have hno : ∀ {d : Nat} {l : List Nat}, has d l = false → d ∉ l := fun hb hm => by rw [has_iff.2 hm] at hb; cases hb
  exact ⟨fun x hx => hno (h.1 x hx), fun x hx => hno (h.2 x hx)⟩

/-! ### Keys, and a map with one entry more -/
theorem leafV {t : Ty K} (hk : t.keyed = true) {x y : V T} {r : Bool} (h : eqLeaf t x y = some r) : r = true ↔ x = y := by
  unfold eqLeaf at h
  cases t <;> first
    | (cases hk; done)
    | skip
  · dsimp only at h
    split at h
    · split at h
      · rename_i hkk
        have := eq_of_beq hkk
        subst this
        simp only [Option.some.injEq] at h
        subst h
        simp
      · cases h
    · cases h
  · dsimp only at h
    split at h
    · simp only [Option.some.injEq] at h
      subst h
      simp
    · cases h
  · dsimp only at h
    split at h
    · simp only [Option.some.injEq] at h
      subst h
      simp
    · cases h
theorem flatV (hE : EnvOk P E) {n d : Nat} : ∀ (fs : List (Nat × Nat)) (o : Nat) {xs ys : List (V T)} {r : Bool}, flat E fs o n = true → xs.length = n → ys.length = n → eqF E d fs xs ys = some r → (r = true ↔ xs.drop o = ys.drop o)
  | [], o, xs, ys, r, hf, hn, hm, h => by
    have ho := Nat.eq_of_beq_eq_true hf
    simp only [eqF, Option.some.injEq] at h
    subst h
    rw [List.drop_eq_nil_of_le (by omega), List.drop_eq_nil_of_le (by omega)]
    simp
  | (u, p) :: fs, o, xs, ys, r, hf, hn, hm, h => by
    simp only [flat, Bool.and_eq_true] at hf
    obtain ⟨h1, h2, h3⟩ := hf
    have hpo := Nat.eq_of_beq_eq_true h1
    subst hpo
    cases d with
    | zero => simp [eqF] at h
    | succ d =>
      simp only [eqF] at h
      split at h
      case h_2 => cases h
      rename_i hlen
      simp only [Bool.and_eq_true] at hlen
      have hs := keyed_size (hE.ty u) h2
      have hl1 := Nat.le_of_ble_eq_true hlen.1
      have hl2 := Nat.le_of_ble_eq_true hlen.2
      rw [hs] at hl1 hl2
      split at h
      case h_2 => cases h
      rename_i a b ha hb
      simp only [Option.some.injEq] at h
      subst h
      obtain ⟨x, y, e1, e2, e3⟩ := eqT_leaf h2 ha
      rw [hs] at e1 e2
      have hv : p < xs.length := by omega
      have hu : p < ys.length := by omega
      rw [List.drop_eq_getElem_cons hv, List.take_succ_cons, List.take_zero] at e1
      rw [List.drop_eq_getElem_cons hu, List.take_succ_cons, List.take_zero] at e2
      cases e1
      cases e2
      rw [List.drop_eq_getElem_cons hv, List.drop_eq_getElem_cons hu, Bool.and_eq_true, leafV h2 e3, flatV hE fs (p + 1) h3 hn hm hb, List.cons.injEq]
theorem eqb_enc (hE : EnvOk P E) {e : K} (hk : keyedT E (E.num e) = true) (a b : T e) : E.eqb e a b = true ↔ E.enc e a = E.enc e b := by
  have h3 := hE.key e hk a b
  unfold keyedT at hk
  split at hk
  · rename_i fs hty
    have hF : eqF E 99 fs (E.enc e a) (E.enc e b) = some (E.eqb e a b) := by
      unfold eqT at h3
      rw [hty] at h3
      exact h3
    have := flatV hE fs 0 hk (hE.encLen e a) (hE.encLen e b) hF
    simpa using this
  · obtain ⟨x, y, e1, e2, e3⟩ := eqT_leaf hk h3
    rw [leafV hk e3, e1, e2]
    simp
theorem lookup_upd (hE : EnvOk P E) {kt et : K} (hk : keyedT E (E.num kt) = true) (k k' : T kt) (z : T et) : ∀ (ents : List (T kt × T et)), (lookupT kt et E (updT kt et E ents k ((lookupT kt et E ents k).getD z)) k').getD z = (lookupT kt et E ents k').getD z
  | [] => by
    simp only [lookupT, updT]
    cases E.eqb kt k' k <;> rfl
  | p :: ps => by
    cases hb : E.eqb kt k p.1 with
    | true =>
      have h1 := (eqb_enc hE hk k p.1).1 hb
      have h2 : E.eqb kt k' k = E.eqb kt k' p.1 := by
        rw [Bool.eq_iff_iff, eqb_enc hE hk, eqb_enc hE hk, h1]
      simp only [lookupT, updT, hb, cond_true, Option.getD_some, h2]
    | false =>
      have ih := lookup_upd hE hk k k' z ps
      simp only [lookupT, updT, hb, cond_false]
      cases E.eqb kt k' p.1 with
      | true => rfl
      | false => exact ih
theorem lookK_ent (hE : EnvOk P E) {k0 e0 k1 e1 : K} {i : Nat} {k kv : V T} {ob ob' : Ob T} {b : Bool} {v : V T} {u : Option (V T)} (h1 : lookK E k0 e0 false k ob = some (true, v)) (h2 : entK E k1 e1 i kv ob = some (b, ob', u)) : lookK E k0 e0 false k ob' = some (true, v) := by
  unfold entK at h2
  split at h2
  case h_2 => cases h2
  rename_i kt et ents
  split at h2
  case h_2 => cases h2
  rename_i key z hck hkey hz
  split at h2
  case h_2 => cases h2
  simp only [Option.some.injEq, Prod.mk.injEq] at h2
  obtain ⟨_, rfl, _⟩ := h2
  have hkt : keyedT E (E.num kt) = true := by
    unfold keyOf at hkey
    split at hkey
    · assumption
    · cases hkey
  unfold lookK at h1 ⊢
  dsimp only at h1 ⊢
  rw [hz] at h1 ⊢
  split at h1
  case h_2 => cases h1
  rename_i key' z' hc hkey' hz'
  cases hz'
  rw [lookup_upd hE hkt]
  split at h1
  · rename_i v' hv'
    simp only [lookRes, Option.some.injEq, Prod.mk.injEq, true_and] at h1 ⊢
    exact h1
  · cases h1

theorem Res.rd_inv {p : Nat} {st st' : List (Ob T)} {i : Nat} {f : Ob T → Option (Bool × V T)} {rd wr : List Nat} {v : Option (V T)} (h : Res P E p st (.rd i f) rd wr v st') : ∃ u, rd = [i] ∧ wr = [] ∧ v = some u ∧ st' = st ∧ (st[i]?).bind f = some (true, u) := by
  cases h with
  | rd h => exact ⟨_, rfl, rfl, rfl, rfl, h⟩
theorem Res.wr_inv {p : Nat} {st st' : List (Ob T)} {i : Nat} {f : Ob T → Option (Bool × Ob T × Option (V T))} {rd wr : List Nat} {v : Option (V T)} (h : Res P E p st (.wr i f) rd wr v st') : ∃ ob, rd = [i] ∧ wr = [i] ∧ st' = st.set i ob ∧ (st[i]?).bind f = some (true, ob, v) := by
  cases h with
  | wr h => exact ⟨_, rfl, rfl, rfl, h⟩
theorem Does.swapO {all : Array Oper} {n base : Nat} {s s1 s2 : Sx T} {j i : Lb} {vj vi : Option (V T)} {rdj wrj rdi wri : List Nat} (hj : Does P E all (base + 4 * j.i) s.1 s.2 j.o vj rdj wrj s1.2) (hFj : j.F = footOf all j.o j.i rdj wrj) (hdj : dstOk n j.o.dst = true) (hfj : FrEq s1.1 (putO s.1 j.o.dst vj))
    (hi : Does P E all (base + 4 * i.i) s1.1 s1.2 i.o vi rdi wri s2.2) (hFi : i.F = footOf all i.o i.i rdi wri) (hdi : dstOk n i.o.dst = true) (hfi : FrEq s2.1 (putO s1.1 i.o.dst vi))
    (a1 : ∀ d, j.o.dst = some d → d ∉ i.o.looksAt all ∧ i.o.dst ≠ some d) (a2 : ∀ d, i.o.dst = some d → d ∉ j.o.looksAt all) (a3 : ∀ x ∈ wrj, x ∉ rdi) (a4 : ∀ x ∈ wri, x ∉ rdj) :
    ∃ t1, Ex P E all n base s i t1 ∧ Ex P E all n base t1 j s2 := by
  obtain ⟨b1, b2, b3⟩ := hj.frame
  obtain ⟨c1, c2, c3⟩ := hi.frame
  obtain ⟨t', d1, d2, d3, d4⟩ := hi.move (fr' := s.1) (t := s.2) (fun x hx => by
      rw [hfj x, get_putO, if_neg]
      intro he
      exact (a1 x he).1 hx) b2.symm (fun x hx => (b1 x fun hw => a3 x hw hx).symm)
  obtain ⟨t'', e1, e2, e3, e4⟩ := hj.move (fr' := putO s.1 i.o.dst vi) (t := t') (fun x hx => by
      rw [get_putO, if_neg]
      intro he
      exact a2 x he hx) d4 (fun x hx => d3 x fun hw => a4 x hw hx)
  have ht : t'' = s2.2 := by
    apply List.ext_getElem?
    intro x
    by_cases hxj : x ∈ wrj
    · rw [e2 x hxj, c1 x fun hw => a3 x hxj (c3 x hw)]
    · rw [e3 x hxj]
      by_cases hxi : x ∈ wri
      · rw [d2 x hxi]
      · rw [d3 x hxi, c1 x hxi, b1 x hxj]
  subst ht
  refine ⟨(putO s.1 i.o.dst vi, t'), ⟨vi, rdi, wri, d1, hFi, hdi, fun _ => rfl⟩, ⟨vj, rdj, wrj, e1, hFj, hdj, fun x => ?_⟩⟩
  rw [hfi x, get_putO, get_putO, get_putO]
  by_cases h1 : i.o.dst = some x
  · rw [if_pos h1, if_neg fun h2 => (a1 x h2).2 h1, if_pos h1]
  · rw [if_neg h1, hfj x, get_putO, if_neg h1]
theorem Ex.swap (hE : EnvOk P E) {all : Array Oper} {n base : Nat} {s s1 s2 : Sx T} {j i : Lb} (h : Ex P E all n base s j s1) (k : Ex P E all n base s1 i s2) (hap : apart1 j.F i.F = true) :
    ∃ t1, Ex P E all n base s i t1 ∧ Ex P E all n base t1 j s2 := by
  obtain ⟨vj, rdj, wrj, hj, hFj, hdj, hfj⟩ := h
  obtain ⟨vi, rdi, wri, hi, hFi, hdi, hfi⟩ := k
  rw [hFj, hFi] at hap
  simp only [apart1, Bool.and_eq_true, Bool.or_eq_true] at hap
  obtain ⟨hS, hO⟩ := hap
  obtain ⟨a1, a2⟩ := apartS_spec hS
  rcases hO with hO | ⟨hk1, hk2⟩
  · obtain ⟨a3, a4⟩ := apartO_spec hO
    exact Does.swapO hj hFj hdj hfj hi hFi hdi hfi a1 a2 a3 a4
  · have hk1 : opKind j.o.op = 1 := Nat.eq_of_beq_eq_true hk1
    have hk2 : opKind i.o.op = 2 := Nat.eq_of_beq_eq_true hk2
    have hj0 := hj
    have hi0 := hi
    rcases hj with ⟨_, _, rfl, rfl, _⟩ | ⟨hgj, kj, hkj, hrj⟩
    · exact Does.swapO hj0 hFj hdj hfj hi0 hFi hdi hfi a1 a2 (fun x hx => by cases hx) (fun x _ hx => by cases hx)
    rcases hi with ⟨_, _, rfl, rfl, _⟩ | ⟨hgi, ki, hki, hri⟩
    · exact Does.swapO hj0 hFj hdj hfj hi0 hFi hdi hfi a1 a2 (fun x _ hx => by cases hx) (fun x hx => by cases hx)
    -- a look into a map, then the making of an entry
    obtain ⟨x, k0, e0, kv, rfl⟩ : ∃ x k0 e0 kv, kj = .rd x (lookK E k0 e0 false kv) := by
      unfold opKind at hk1
      split at hk1
      · rename_i hop
        unfold opAct at hkj
        rw [hop] at hkj
        dsimp only at hkj
        unfold lookupA at hkj
        split at hkj
        · simp only [Option.some.injEq] at hkj
          exact ⟨_, _, _, _, hkj.symm⟩
        · cases hkj
      · cases hk1
      · cases hk1
    obtain ⟨y, k1, e1, ku, rfl⟩ : ∃ y k1 e1 ku, ki = .wr y (entK E k1 e1 y ku) := by
      unfold opKind at hk2
      split at hk2
      · cases hk2
      · rename_i hop
        unfold opAct at hki
        rw [hop] at hki
        dsimp only at hki
        unfold mapEntryA at hki
        split at hki
        · simp only [Option.some.injEq] at hki
          exact ⟨_, _, _, _, hki.symm⟩
        · cases hki
      · cases hk2
    obtain ⟨u, rfl, rfl, rfl, hs1, hu⟩ := hrj.rd_inv
    obtain ⟨ob', rfl, rfl, hs2, hu'⟩ := hri.wr_inv
    by_cases hxy : x = y
    · subst hxy
      obtain ⟨t', d1, d2, d3, d4⟩ := hi0.move (fr' := s.1) (t := s.2) (fun z hz => by
          rw [hfj z, get_putO, if_neg]
          intro he
          exact (a1 z he).1 hz) (by rw [hs1]) (fun _ _ => by rw [hs1])
      have ht : t' = s2.2 := by
        apply List.ext_getElem?
        intro z
        rw [hs2]
        by_cases hz : z = x
        · subst hz
          rw [d2 z (List.mem_singleton.2 rfl), hs2]
        · rw [d3 z (fun hm => hz (List.mem_singleton.1 hm)), List.getElem?_set_ne (fun e => hz e.symm), hs1]
      subst ht
      obtain ⟨w1, hw1, hw2⟩ := Option.bind_eq_some_iff.1 hu
      obtain ⟨w2, hw3, hw4⟩ := Option.bind_eq_some_iff.1 hu'
      rw [hs1, hw1] at hw3
      cases hw3
      have hx : x < s1.2.length := by rw [hs1]; exact (List.getElem?_eq_some_iff.1 hw1).1
      have hlook : (s2.2[x]?).bind (lookK E k0 e0 false kv) = some (true, u) := by
        rw [hs2, List.getElem?_set_self hx]
        exact lookK_ent hE hw2 hw4
      refine ⟨(putO s.1 i.o.dst vi, s2.2), ⟨vi, _, _, d1, hFi, hdi, fun _ => rfl⟩, ⟨some u, [x], [], .inr ⟨?_, _, ?_, .rd hlook⟩, hFj, hdj, fun z => ?_⟩⟩
      · rcases hgj with hgj | ⟨j', want, d, hg, hd, hv⟩
        · exact .inl hgj
        · refine .inr ⟨j', want, d, hg, hd, ?_⟩
          dsimp only
          rw [get_putO, if_neg fun he => a2 d he (looks_guard hg hd)]
          exact hv
      · rw [← hkj]
        refine opAct_congr j.o fun z hz => evalO_congr fun t ht => ?_
        dsimp only
        rw [get_putO, if_neg fun he => a2 t he (looks_op (by rw [← ht]; exact hz))]
      · rw [hfi z, get_putO, get_putO, get_putO]
        by_cases h1 : i.o.dst = some z
        · rw [if_pos h1, if_neg fun h2 => (a1 z h2).2 h1, if_pos h1]
        · rw [if_neg h1, hfj z, get_putO, if_neg h1]
    · exact Does.swapO hj0 hFj hdj hfj hi0 hFi hdi hfi a1 a2 (fun z hz => by cases hz) (fun z hz hz' => hxy ((List.mem_singleton.1 hz').symm.trans (List.mem_singleton.1 hz)))
inductive Run (P : Program) (E : Env T) (all : Array Oper) (n base : Nat) : Sx T → List Lb → Sx T → Prop
  | nil {s s'} (h1 : FrEq s'.1 s.1) (h2 : s'.2 = s.2) : Run P E all n base s [] s'
  | cons {s l s1 L s'} (h : Ex P E all n base s l s1) (k : Run P E all n base s1 L s') : Run P E all n base s (l :: L) s'
theorem Run.pull (hE : EnvOk P E) {all : Array Oper} {n base : Nat} {l : Lb} {L2 : List Lb} : ∀ {L1 : List Lb} {s s' : Sx T}, Run P E all n base s (L1 ++ l :: L2) s' → (∀ m ∈ L1, apart1 m.F l.F = true) →
    ∃ t, Ex P E all n base s l t ∧ Run P E all n base t (L1 ++ L2) s'
  | [], s, s', h, _ => by
    cases h with
    | cons h k => exact ⟨_, h, k⟩
  | m :: L1, s, s', h, ha => by
    cases h with
    | cons h k =>
      obtain ⟨t, h1, h2⟩ := Run.pull hE k fun m' hm => ha m' (List.mem_cons_of_mem _ hm)
      obtain ⟨t1, h3, h4⟩ := h.swap hE h1 (ha m (List.mem_cons_self ..))
      exact ⟨t1, h3, .cons h4 h2⟩

/-! ### What must come before -/
theorem testBit_fold {acc : Array Nat} (a : Nat) : ∀ (es : List Edge) (s : Nat), (es.foldl (fun s e => if Region.binds .any e then s ||| 2 ^ e.on ||| acc.getD e.on 0 else s) s).testBit a = true →
    s.testBit a = true ∨ ∃ e ∈ es, Region.binds .any e = true ∧ (e.on = a ∨ (acc.getD e.on 0).testBit a = true)
  | [], s, h => .inl h
  | e :: es, s, h => by
    rw [List.foldl_cons] at h
    rcases testBit_fold a es _ h with h1 | ⟨e', h1, h2⟩
    · split at h1
      · rename_i hb
        rw [Nat.testBit_or, Nat.testBit_or, Bool.or_eq_true, Bool.or_eq_true] at h1
        rcases h1 with (h1 | h1) | h1
        · exact .inl h1
        · rw [Nat.testBit_two_pow] at h1
          exact .inr ⟨e, List.mem_cons_self .., hb, .inl (by simpa using h1)⟩
        · exact .inr ⟨e, List.mem_cons_self .., hb, .inr h1⟩
      · exact .inl h1
    · exact .inr ⟨e', List.mem_cons_of_mem _ h1, h2⟩
def befores (l : List Oper) (acc : Array Nat) : Array Nat := l.foldl (fun acc o => acc.push (o.after.foldl (fun s e => if Region.binds .any e then s ||| 2 ^ e.on ||| acc.getD e.on 0 else s) 0)) acc
theorem befores_size : ∀ (l : List Oper) (acc : Array Nat), (befores l acc).size = acc.size + l.length
  | [], acc => rfl
  | o :: l, acc => by
    show (befores l _).size = _
    rw [befores_size l]
    simp; omega
theorem befores_old : ∀ (l : List Oper) (acc : Array Nat) (i : Nat), i < acc.size → (befores l acc)[i]? = acc[i]?
  | [], _, _, _ => rfl
  | o :: l, acc, i, h => by
    show (befores l _)[i]? = _
    rw [befores_old l _ i (by simp; omega), Array.getElem?_push, if_neg (by omega)]
theorem befores_spec : ∀ (l : List Oper) (acc : Array Nat) (b a : Nat) (o : Oper), acc.size ≤ b → l[b - acc.size]? = some o → (∀ e ∈ o.after, Region.binds .any e = true → e.on < b) → ((befores l acc).getD b 0).testBit a = true →
    ∃ e ∈ o.after, Region.binds .any e = true ∧ (e.on = a ∨ ((befores l acc).getD e.on 0).testBit a = true)
  | [], acc, b, a, o, _, h, _, _ => by simp at h
  | o' :: l, acc, b, a, o, hb, h, he, ht => by
    by_cases hbs : b = acc.size
    · subst hbs
      simp only [Nat.sub_self, List.getElem?_cons_zero, Option.some.injEq] at h
      subst h
      have h1 : (befores (o' :: l) acc).getD acc.size 0 = o'.after.foldl (fun s e => if Region.binds .any e then s ||| 2 ^ e.on ||| acc.getD e.on 0 else s) 0 := by
        have : (befores (o' :: l) acc)[acc.size]? = some (o'.after.foldl (fun s e => if Region.binds .any e then s ||| 2 ^ e.on ||| acc.getD e.on 0 else s) 0) := by
          show (befores l (acc.push _))[acc.size]? = _
          rw [befores_old l _ _ (by simp)]
          simp
        rw [Array.getD_eq_getD_getElem?, this]
        rfl
      rw [h1, ← Array.foldl_toList] at ht
      rcases testBit_fold a _ _ ht with h2 | ⟨e, h2, h3, h4⟩
      · simp at h2
      · refine ⟨e, Array.mem_toList_iff.1 h2, h3, h4.imp id fun h5 => ?_⟩
        have hlt := he e (Array.mem_toList_iff.1 h2) h3
        have : (befores (o' :: l) acc)[e.on]? = acc[e.on]? := befores_old _ _ _ hlt
        rw [Array.getD_eq_getD_getElem?, this, ← Array.getD_eq_getD_getElem?]
        exact h5
    · have hlt : acc.size + 1 ≤ b := by omega
      exact befores_spec l _ b a o (by simp; omega) (by
        have : b - acc.size = (b - (acc.size + 1)) + 1 := by omega
        rw [this, List.getElem?_cons_succ] at h
        simpa using h) he ht
theorem before_eq (all : Array Oper) : Region.before all = befores all.toList #[] := by
  unfold Region.before befores
  rw [← Array.foldl_toList]
theorem before_spec {all : Array Oper} {b a : Nat} {o : Oper} (ho : all[b]? = some o) (he : ∀ e ∈ o.after, Region.binds .any e = true → e.on < b) (ht : ((Region.before all).getD b 0).testBit a = true) :
    ∃ e ∈ o.after, Region.binds .any e = true ∧ (e.on = a ∨ ((Region.before all).getD e.on 0).testBit a = true) := by
  rw [before_eq] at ht ⊢
  exact befores_spec _ _ b a o (by simp) (by simpa using ho) he ht
theorem backward_spec : ∀ {l : List Oper} {i : Nat}, backward l i = true → ∀ (k : Nat) (o : Oper), l[k]? = some o → ∀ e ∈ o.after, Region.binds .any e = true → e.on < i + k
  | [], _, _, k, o, h => by simp at h
  | o' :: l, i, hb, 0, o, h => by
    simp only [List.getElem?_cons_zero, Option.some.injEq] at h
    subst h
    simp only [backward, Bool.and_eq_true, List.all_eq_true] at hb
    intro e he hbi
    have := hb.1 e (Array.mem_toList_iff.2 he)
    rw [hbi] at this
    have h3 : e.on < i := by simpa using this
    omega
  | o' :: l, i, hb, k + 1, o, h => by
    simp only [backward, Bool.and_eq_true] at hb
    intro e he hbi
    have := backward_spec hb.2 k o (by simpa using h) e he hbi
    omega

/-- All that must come before a thing that may come now has come. -/
theorem come {all : Array Oper} {listed : Array Bool} (hback : ∀ (b : Nat) (o : Oper), all[b]? = some o → ∀ e ∈ o.after, Region.binds .any e = true → e.on < b)
    (hcl : ∀ (b : Nat) (o : Oper), all[b]? = some o → listed.getD b false = true → ∀ e ∈ o.after, Region.binds .any e = true → listed.getD e.on false = true) (hsz : listed.size = all.size) :
    ∀ (b : Nat) (o : Oper) (a : Nat), all[b]? = some o → (∀ e ∈ o.after, Region.binds .any e = true → listed.getD e.on false = true) → ((Region.before all).getD b 0).testBit a = true → listed.getD a false = true := by
  intro b
  induction b using Nat.strongRecOn with
  | _ b ih =>
    intro o a ho hp ht
    obtain ⟨e, h1, h2, h3⟩ := before_spec ho (hback b o ho) ht
    rcases h3 with h3 | h3
    · subst h3; exact hp e h1 h2
    · have hlt := hback b o ho e h1 h2
      have hl := hp e h1 h2
      have hb : e.on < all.size := by
        have := (Array.getElem?_eq_some_iff.1 ho).1
        omega
      exact ih e.on hlt all[e.on] a (by simp [hb]) (hcl e.on _ (by simp [hb]) hl) h3

/-! ### The region -/
theorem GYes.wanted {g : Gh} {all : Array Oper} {o : Oper} {fr : Fr T} {tmps : Array Value} (hf : FrOk E g fr tmps) (h : GYes all o fr) : Region.wanted o (yielded all tmps) = true := by
  unfold Region.wanted
  rcases h with h | ⟨j, want, d, h1, h2, h3⟩
  · rw [h]
  · rw [h1]
    obtain ⟨x, h4, h5⟩ := hf d _ h3
    have := h5.bool_inv
    subst this
    simp [yielded, h2, h4]
theorem GNo.wanted {g : Gh} {all : Array Oper} {o : Oper} {fr : Fr T} {tmps : Array Value} (hf : FrOk E g fr tmps) (h : GNo all o fr) : Region.wanted o (yielded all tmps) = false := by
  unfold Region.wanted
  obtain ⟨j, want, d, h1, h2, h3⟩ := h
  rw [h1]
  rcases h3 with h3 | h3
  · obtain ⟨x, h4, h5⟩ := hf d _ h3
    have := h5.bool_inv
    subst this
    cases want <;> simp [yielded, h2, h4]
  · obtain ⟨x, h4, h5⟩ := hf d _ h3
    have : x = undef := by cases h5 with
      | fc h => cases h
      | und => rfl
    subst this
    simp [yielded, h2, h4, undef]

theorem Ex.wp (hE : EnvOk P E) {all : Array Oper} {n base : Nat} {s s' : Sx T} {l : Lb} (h : Ex P E all n base s l s') (hl : all[l.i]? = some l.o) {g : Gh} {w : World} {a : Act} (hi : Inv E g s.2 w) (hf : FrOk E g s.1 a.tmps) (hn : n ≤ a.tmps.size)
    {R : Act → World → Prop} {Q : Exit → Act → World → Prop} (hK : ∀ g' w' x, To E g w g' s'.2 w' → FrOk E g' s'.1 (a.put l.o.dst x).tmps → R (a.put l.o.dst x) w') : wpOp P all Q l.i R a w := by
  obtain ⟨v, rd, wr, hd, _, hdst, hfr⟩ := h
  unfold wpOp
  rw [hl]
  dsimp only
  have fin : ∀ {g' w' x}, To E g w g' s'.2 w' → RepO E g' v x → R (a.put l.o.dst x) w' := fun {g' w' x} hto hx => hK g' w' x hto fun t u hu => by
    rw [hfr t] at hu
    exact FrOk.putO (hf.mono hto.le) hx hdst hn t u hu
  rcases hd with ⟨hg, rfl, rfl, rfl, hst⟩ | ⟨hg, k, hk, hr⟩
  · rw [hg.wanted hf]
    simp only [Bool.false_eq_true, if_false]
    exact fin (by rw [hst]; exact .refl hi) rfl
  · rw [hg.wanted hf]
    simp only [if_true]
    exact .inl (hr.wp hE hi hf hk fun g' w' x h1 h2 => fin h1 h2)

theorem any_order (hE : EnvOk P E) {all : Array Oper} {n base : Nat} {s' : Sx T} {Q : Exit → Act → World → Prop} (hback : ∀ (b : Nat) (o : Oper), all[b]? = some o → ∀ e ∈ o.after, Region.binds .any e = true → e.on < b) :
    ∀ (fuel : Nat) (L : List Lb) (listed : Array Bool) (s : Sx T) (g : Gh) (a : Act) (w : World), L.length ≤ fuel → Inv E g s.2 w → FrOk E g s.1 a.tmps → n ≤ a.tmps.size → Run P E all n base s L s' →
      listed.size = all.size → (∀ i : Nat, i < all.size → (listed.getD i true = false ↔ ∃ l ∈ L, l.i = i)) → (∀ l ∈ L, all[l.i]? = some l.o) → L.Pairwise (fun a b => a.i < b.i) →
      L.Pairwise (fun a b => ((Region.before all).getD b.i 0).testBit a.i = true ∨ apart1 a.F b.F = true) →
      (∀ (b : Nat) (o : Oper), all[b]? = some o → listed.getD b false = true → ∀ e ∈ o.after, Region.binds .any e = true → listed.getD e.on false = true) →
      (∀ g' a' w', To E g w g' s'.2 w' → FrOk E g' s'.1 a'.tmps → a'.tmps.size = a.tmps.size → a'.defers = a.defers → Q .normal a' w') → wpAny P .any all Q fuel listed a w := by
  intro fuel
  -- what is ready, if anything is left
  have ready : ∀ (L : List Lb) (listed : Array Bool), listed.size = all.size → (∀ i : Nat, i < all.size → (listed.getD i true = false ↔ ∃ l ∈ L, l.i = i)) → (∀ l ∈ L, all[l.i]? = some l.o) → L.Pairwise (fun a b => a.i < b.i) →
      Region.ready .any all listed = [] → L = [] := by
    intro L listed hsz hl hop hsort hr
    cases L with
    | nil => rfl
    | cons l L =>
      have ho := hop l (List.mem_cons_self ..)
      have hlt : l.i < all.size := (Array.getElem?_eq_some_iff.1 ho).1
      have : l.i ∈ Region.ready .any all listed := by
        rw [mem_ready]
        refine ⟨(hl l.i hlt).2 ⟨l, List.mem_cons_self .., rfl⟩, l.o, ho, fun e he hb => ?_⟩
        have h1 := hback l.i l.o ho e he hb
        cases hc : listed.getD e.on false with
        | true => rfl
        | false =>
          have h2 : listed.getD e.on true = false := by
            have : e.on < listed.size := by omega
            simpa [this] using hc
          obtain ⟨m, hm, hme⟩ := (hl e.on (by omega)).1 h2
          rcases List.mem_cons.1 hm with rfl | hm
          · omega
          · have := (List.pairwise_cons.1 hsort).1 m hm
            omega
      rw [hr] at this
      cases this
  induction fuel with
  | zero =>
    intro L listed s g a w hlen hi hf hn hrun hsz hl hop hsort hap hcl hQ
    have : L = [] := List.eq_nil_of_length_eq_zero (by omega)
    subst this
    refine ⟨?_, ?_⟩
    · cases hrr : Region.ready .any all listed with
      | nil => rfl
      | cons i is =>
        have hm : i ∈ Region.ready .any all listed := by rw [hrr]; exact List.mem_cons_self ..
        obtain ⟨h1, o, h2, _⟩ := mem_ready.1 hm
        obtain ⟨m, hm, _⟩ := (hl i (Array.getElem?_eq_some_iff.1 h2).1).1 h1
        cases hm
    · cases hrun with
      | nil h1 h2 => exact hQ g a w (by rw [h2]; exact .refl hi) (fun t u hu => hf t u (by rw [← h1 t]; exact hu)) rfl rfl
  | succ fuel ih =>
    intro L listed s g a w hlen hi hf hn hrun hsz hl hop hsort hap hcl hQ
    refine ⟨fun hr => ?_, fun i hir => ?_⟩
    · have := ready L listed hsz hl hop hsort hr
      subst this
      cases hrun with
      | nil h1 h2 => exact hQ g a w (by rw [h2]; exact .refl hi) (fun t u hu => hf t u (by rw [← h1 t]; exact hu)) rfl rfl
    · obtain ⟨h1, o, ho, hpre⟩ := mem_ready.1 hir
      have hlt : i < all.size := (Array.getElem?_eq_some_iff.1 ho).1
      obtain ⟨l, hlm, rfl⟩ := (hl i hlt).1 h1
      obtain ⟨L1, L2, rfl⟩ := List.append_of_mem hlm
      have hlo := hop l hlm
      rw [ho] at hlo
      cases hlo
      rw [List.pairwise_append] at hsort hap
      obtain ⟨hs1, hs2, hs3⟩ := hsort
      obtain ⟨ha1, ha2, ha3⟩ := hap
      rw [List.pairwise_cons] at hs2 ha2
      have hunl : ∀ m ∈ L1, listed.getD m.i false = false := fun m hm => by
        have hmo := hop m (List.mem_append_left _ hm)
        have hmlt : m.i < all.size := (Array.getElem?_eq_some_iff.1 hmo).1
        have := (hl m.i hmlt).2 ⟨m, List.mem_append_left _ hm, rfl⟩
        have hms : m.i < listed.size := by omega
        simpa [hms] using this
      obtain ⟨t, hex, hrun'⟩ := hrun.pull hE fun m hm => by
        rcases ha3 m hm l (List.mem_cons_self ..) with hb | hb
        · have := come hback hcl hsz l.i l.o m.i ho hpre hb
          rw [hunl m hm] at this
          cases this
        · exact hb
      refine hex.wp hE ho hi hf hn fun g' w' x hto hf' => ?_
      have hls : l.i < listed.size := by omega
      refine ih (L1 ++ L2) _ t g' _ w' (by simp at hlen ⊢; omega) hto.inv hf' (by rw [put_size]; exact hn) hrun' (by simp [hsz]) (fun j hj => ?_) (fun m hm => hop m ?_) ?_ ?_ ?_ ?_
      · have hjl : j < listed.size := by omega
        by_cases hji : l.i = j
        · subst hji
          rw [show (listed.setIfInBounds l.i true).getD l.i true = true by simp [hjl]]
          simp only [Bool.true_eq_false, false_iff]
          rintro ⟨m, hm, hmi⟩
          rcases List.mem_append.1 hm with hm | hm
          · have := hs3 m hm l (List.mem_cons_self ..); omega
          · have := hs2.1 m hm; omega
        · rw [getD_set_ne true hji, hl j hj]
          constructor
          · rintro ⟨m, hm, hmi⟩
            rcases List.mem_append.1 hm with hm | hm
            · exact ⟨m, List.mem_append_left _ hm, hmi⟩
            · rcases List.mem_cons.1 hm with rfl | hm
              · exact absurd hmi hji
              · exact ⟨m, List.mem_append_right _ hm, hmi⟩
          · rintro ⟨m, hm, hmi⟩
            rcases List.mem_append.1 hm with hm | hm
            · exact ⟨m, List.mem_append_left _ hm, hmi⟩
            · exact ⟨m, List.mem_append_right _ (List.mem_cons_of_mem _ hm), hmi⟩
      · rcases List.mem_append.1 hm with hm | hm
        · exact List.mem_append_left _ hm
        · exact List.mem_append_right _ (List.mem_cons_of_mem _ hm)
      · rw [List.pairwise_append]
        exact ⟨hs1, hs2.2, fun a ha b hb => hs3 a ha b (List.mem_cons_of_mem _ hb)⟩
      · rw [List.pairwise_append]
        exact ⟨ha1, ha2.2, fun a ha b hb => ha3 a ha b (List.mem_cons_of_mem _ hb)⟩
      · intro b o' hb hlb e he hbi
        by_cases hbl : l.i = b
        · subst hbl
          rw [ho] at hb
          cases hb
          exact getD_set_true (hpre e he hbi)
        · rw [getD_set_ne false hbl] at hlb
          exact getD_set_true (hcl b o' hb hlb e he hbi)
      · intro g2 a2 w2 hto2 hf2 hs2' hd2
        exact hQ g2 a2 w2 (hto.trans hto2) hf2 (by rw [hs2', put_size]) (by rw [hd2, put_defers])
end Go.Proofs.YtnenfgpjedddoaaGreat.AI
