/- From a row's data to the interpreter's values. -/
import Derived.Test.YtnenfgpjedddoaaGreatAITree
import Derived.OpenShut
import Derived.ChangeArms
import Derived.Below
set_option linter.unusedVariables false
set_option linter.unusedSectionVars false
set_option linter.unusedSimpArgs false
namespace Go.Proofs.YtnenfgpjedddoaaGreat.AI
open Go

variable {K : Type} [DecidableEq K] {T : K → Type} {E : Env T} {P : Program}

/-- Numbers that are of their kind, lists that fit into memory. -/
inductive Dom (E : Env T) : V T → Prop
  | int {k x} (h : (Lit.int k x).wf = true) : Dom E (.int k x)
  | bool {b} : Dom E (.bool b)
  | str {s : List UInt8} (h : s.length ≤ 140737488351232) : Dom E (.str s)
  | sl {e xs o} (hl : xs.length * E.bytes e ≤ 140737488351232) (h : ∀ x ∈ xs, ∀ v ∈ E.enc e x, Dom E v) : Dom E (.sl e xs o)
def ShapeV (E : Env T) (t : Nat) (v : V T) : Prop := match E.ty t with
  | .int k => ∃ n, v = .int k n
  | .bool => ∃ b, v = .bool b
  | .str => ∃ s, v = .str s
  | .slice e => ∃ xs, v = .sl e xs .no
  | _ => False
def Shape (E : Env T) : List Nat → List (V T) → Prop
  | [], [] => True
  | t :: ts, v :: vs => ShapeV E t v ∧ Shape E ts vs
  | _, _ => False
theorem shape_cons {t : Nat} {ts : List Nat} {vs : List (V T)} (h : Shape E (t :: ts) vs) : ∃ v vs', vs = v :: vs' ∧ ShapeV E t v ∧ Shape E ts vs' := by
  cases vs with
  | nil => exact h.elim
  | cons v vs => exact ⟨v, vs, rfl, h.1, h.2⟩
theorem shape_nil {vs : List (V T)} (h : Shape E [] vs) : vs = [] := by
  cases vs with
  | nil => rfl
  | cons v vs => exact h.elim
theorem Shape.append : ∀ {ts us : List Nat} {vs ws : List (V T)}, Shape E ts vs → Shape E us ws → Shape E (ts ++ us) (vs ++ ws)
  | [], us, [], ws, _, h => h
  | t :: ts, us, v :: vs, ws, h, k => ⟨h.1, Shape.append h.2 k⟩
  | [], _, _ :: _, _, h, _ => h.elim
  | _ :: _, _, [], _, h, _ => h.elim
theorem Shape.len : ∀ {ts : List Nat} {vs : List (V T)}, Shape E ts vs → vs.length = ts.length
  | [], [], _ => rfl
  | t :: ts, v :: vs, h => by simp [Shape.len h.2]
  | [], _ :: _, h => h.elim
  | _ :: _, [], h => h.elim

/-- The cells of fields, one behind the other. -/
def fieldCts (E : Env T) (off : Nat) : List (Nat × Nat) → Option (List Nat)
  | [] => some []
  | (u, o) :: fs => match Nat.beq o off, fieldCts E (off + E.size u) fs with
    | true, some l => some (E.cts u ++ l)
    | _, _ => none
def timesCts (l : List Nat) : Nat → List Nat
  | 0 => []
  | n + 1 => l ++ timesCts l n
/-- A type that can be told, if these can. -/
def tellB (E : Env T) (tell : Nat → Bool) (t : Nat) : Bool := match E.ty t with
  | .int _ => true
  | .bool => true
  | .str => true
  | .slice e => tell (E.num e)
  | .struct fs => fs.all (fun p => tell p.1) && (match fieldCts E 0 fs with
    | some l => natsB (E.cts t) l
    | none => false)
  | .array n e => tell e && natsB (E.cts t) (timesCts (E.cts e) n)
  | _ => false
structure Tells (E : Env T) (tell : Nat → Bool) (N : Nat) : Prop where
  all : belowB (fun t => match tell t with
    | true => tellB E tell t
    | false => true) N = true
  out : ∀ t, N ≤ t → tell t = false
  dec : ∀ e vs, tell (E.num e) = true → Shape E (E.cts (E.num e)) vs → ∃ x, E.dec e vs = some x
theorem Tells.at {tell : Nat → Bool} {N : Nat} (h : Tells E tell N) {t : Nat} (ht : tell t = true) : tellB E tell t = true := by
  by_cases hlt : t < N
  · have := belowB_spec h.all t hlt
    rw [ht] at this
    exact this
  · rw [h.out t (by omega)] at ht; cases ht

section
variable {H : Type} {enc : TypeId × Value → H} {W : World} {base : Nat} {spare : Nat → Bool} {held : Bool}
/-- All that there is. -/
def allG (W : World) : Nat → Nat → Option Value := fun b off => W.cell? ⟨b, off, none⟩
theorem weightsEach_at {p : Nat → Bool} : ∀ {ts : List TypeId} {ds : List (DataW H)} {i : Nat} {t : TypeId} {d : DataW H}, (DataW.weightsEach P ts ds).all p = true → ts[i]? = some t → ds[i]? = some d → (d.weights P t).all p = true
  | t' :: ts, d' :: ds, 0, t, d, h, h1, h2 => by
    simp only [List.getElem?_cons_zero, Option.some.injEq] at h1 h2
    subst h1; subst h2
    simp only [DataW.weightsEach, List.all_append, Bool.and_eq_true] at h
    exact h.1
  | t' :: ts, d' :: ds, i + 1, t, d, h, h1, h2 => by
    simp only [DataW.weightsEach, List.all_append, Bool.and_eq_true] at h
    exact weightsEach_at h.2 (by simpa using h1) (by simpa using h2)
  | [], _, i, t, d, _, h1, _ => by simp at h1
  | _ :: _, [], i, t, d, _, _, h2 => by simp at h2
theorem weightsAll_at {p : Nat → Bool} {e : TypeId} : ∀ {ds : List (DataW H)} {i : Nat} {d : DataW H}, (DataW.weightsAll P e ds).all p = true → ds[i]? = some d → (d.weights P e).all p = true
  | d' :: ds, 0, d, h, h2 => by
    simp only [List.getElem?_cons_zero, Option.some.injEq] at h2
    subst h2
    simp only [DataW.weightsAll, List.all_append, Bool.and_eq_true] at h
    exact h.1
  | d' :: ds, i + 1, d, h, h2 => by
    simp only [DataW.weightsAll, List.all_append, Bool.and_eq_true] at h
    exact weightsAll_at h.2 (by simpa using h2)
  | [], i, d, _, h2 => by simp at h2
theorem fits_all {p : Nat → Prop} [DecidablePred p] {l : List Nat} {n : Nat} (h : (n :: l).all (fun x => decide (p x)) = true) : p n := by
  simp only [List.all_cons, Bool.and_eq_true, decide_eq_true_eq] at h
  exact h.1

/-- Told: what these cells are. -/
def Told (E : Env T) (W : World) (ts : List Nat) (cs : List Value) : Prop := ∃ vs, Fcs E (allG W) vs cs ∧ Shape E ts vs ∧ ∀ v ∈ vs, Dom E v
theorem Fcs.append {G} : ∀ {vs ws : List (V T)} {cs ds : List Value}, Fcs E G vs cs → Fcs E G ws ds → Fcs E G (vs ++ ws) (cs ++ ds)
  | _, _, _, _, .nil, k => k
  | _, _, _, _, .cons a b, k => .cons a (Fcs.append b k)
theorem Told.append {ts us : List Nat} {cs ds : List Value} (h : Told E W ts cs) (k : Told E W us ds) : Told E W (ts ++ us) (cs ++ ds) := by
  obtain ⟨vs, h1, h2, h3⟩ := h
  obtain ⟨ws, k1, k2, k3⟩ := k
  exact ⟨vs ++ ws, h1.append k1, h2.append k2, fun v hv => (List.mem_append.1 hv).elim (h3 v) (k3 v)⟩
theorem told_fields {cs : List Value} : ∀ (fs : List (Nat × Nat)) (off : Nat) (l : List Nat), fieldCts E off fs = some l →
    (∀ p ∈ fs, Told E W (E.cts p.1) ((cs.drop p.2).take (E.size p.1))) → Told E W l ((cs.drop off).take l.length)
  | [], off, l, h, _ => by
    simp only [fieldCts, Option.some.injEq] at h
    subst h
    exact ⟨[], by simpa using Fcs.nil, trivial, fun v hv => by cases hv⟩
  | (u, o) :: fs, off, l, h, hp => by
    simp only [fieldCts] at h
    split at h
    · rename_i l' hb hl
      have := Nat.eq_of_beq_eq_true hb
      subst this
      simp only [Option.some.injEq] at h
      subst h
      have h1 := hp (u, o) (List.mem_cons_self ..)
      have h2 := told_fields fs (o + E.size u) l' hl fun p hm => hp p (List.mem_cons_of_mem _ hm)
      have := h1.append h2
      dsimp only at this
      rw [List.length_append, show (E.cts u).length = E.size u from rfl, List.take_add, List.drop_drop]
      exact this
    · cases h
theorem told_times {cs : List Value} {l : List Nat} : ∀ (n off : Nat), (∀ i, i < n → Told E W l ((cs.drop (off + i * l.length)).take l.length)) → Told E W (timesCts l n) ((cs.drop off).take (timesCts l n).length)
  | 0, off, _ => ⟨[], by simpa [timesCts] using Fcs.nil, trivial, fun v hv => by cases hv⟩
  | n + 1, off, h => by
    have h1 := h 0 (by omega)
    rw [Nat.zero_mul, Nat.add_zero] at h1
    have h2 := told_times n (off + l.length) fun i hi => by
      have := h (i + 1) (by omega)
      rwa [Nat.add_mul, Nat.one_mul, Nat.add_comm (i * l.length), ← Nat.add_assoc] at this
    have := h1.append h2
    simp only [timesCts]
    rw [List.length_append, List.take_add, List.drop_drop]
    exact this

theorem sized_cells {t : Nat} (h : Sized P E t) : P.cellsOf t = E.size t := by
  obtain ⟨i, h1, h2⟩ := h
  simp [Program.cellsOf, h1, h2]
/-- What a row's data says of cells. -/
theorem open_ok (hE : EnvOk P E) {tell : Nat → Bool} {N : Nat} (hT : Tells E tell N) (hdec : ∀ e cs x, E.dec e cs = some x → frzs cs = some (E.enc e x)) : ∀ (fuel t : Nat) (cs : List Value) (x : DataW H × List MemPlace),
    DataW.trod enc P W base spare held fuel t cs = some x → tell t = true → (x.1.weights P t).all (· ≤ reachBytes) = true → Told E W (E.cts t) cs := by
  intro fuel
  induction fuel with
  | zero => intro t cs x h; simp [DataW.trod] at h
  | succ fuel ih =>
    intro t cs x h ht hw
    have hty := hE.ty t
    have hB := hT.at ht
    unfold tellB at hB
    cases hk : E.ty t <;> rw [hk] at hty hB <;> try (cases hB; done)
    case int k =>
      obtain ⟨hu, _, hc⟩ := hty
      rw [hc]
      unfold DataW.trod at h
      rw [hu] at h
      split at h <;> simp_all
      rename_i k' n _ _
      obtain ⟨⟨rfl, hwf⟩, _⟩ := h
      exact ⟨[.int k' n], .cons (.int _ _) .nil, ⟨by unfold ShapeV; rw [hk]; exact ⟨n, rfl⟩, trivial⟩, fun v hv => by
        have := List.mem_singleton.1 hv
        subst this
        exact .int hwf⟩
    case bool =>
      obtain ⟨hu, _, hc⟩ := hty
      rw [hc]
      obtain ⟨b, rfl⟩ : ∃ b, cs = [.bool b] := by
        unfold DataW.trod at h
        rw [hu] at h
        rcases cs with _ | ⟨c, _ | ⟨c', cs⟩⟩
        · simp at h
        · cases c <;> first | exact ⟨_, rfl⟩ | (simp at h; done) | (cases h; done)
        · simp at h
      exact ⟨[.bool b], .cons (.bool _) .nil, ⟨by unfold ShapeV; rw [hk]; exact ⟨b, rfl⟩, trivial⟩, fun v hv => by
        have := List.mem_singleton.1 hv
        subst this
        exact .bool⟩
    case str =>
      obtain ⟨hu, _, hc⟩ := hty
      rw [hc]
      obtain ⟨l, rfl, hx⟩ : ∃ l, cs = [.string ⟨⟨l⟩⟩] ∧ x = (.lit (.string l), []) := by
        unfold DataW.trod at h
        rw [hu] at h
        rcases cs with _ | ⟨c, _ | ⟨c', cs⟩⟩
        · simp at h
        · cases c <;> first
            | (cases h; done)
            | (rename_i s
               obtain ⟨⟨l⟩⟩ := s
               dsimp only at h
               split at h
               · cases h; exact ⟨l, rfl, rfl⟩
               · cases h)
            | (simp at h; done)
        · simp at h
      subst hx
      refine ⟨[.str l], .cons (.str _) .nil, ⟨by unfold ShapeV; rw [hk]; exact ⟨l, rfl⟩, trivial⟩, fun v hv => ?_⟩
      have := List.mem_singleton.1 hv
      subst this
      refine .str ?_
      exact of_decide_eq_true (List.all_eq_true.1 hw l.length (by simp [DataW.weights]))
    case slice e =>
      obtain ⟨hu, _, hc⟩ := hty
      rw [hc]
      obtain ⟨inf, z, e1, e2, e3, e4, e5, e6, e7⟩ := hE.elem e
      have hcell : P.cellsOf (E.num e) = E.size (E.num e) := by simp [Program.cellsOf, e1, e3]
      have hbytes : P.bytesOf (E.num e) = E.bytes e := by simp [Program.bytesOf, e1, e5]
      have hsh : ∀ xs, ShapeV E t (.sl e xs .no) := fun xs => by unfold ShapeV; rw [hk]; exact ⟨xs, rfl⟩
      rcases DataW.trod_slice hu h with ⟨rfl, rfl⟩ | ⟨a, len, cap, elems, rest, n, hfu, rfl, rfl, hb, hl, hm, hlen, hel, _, _⟩
      · exact ⟨[.sl e [] .no], .cons (.sl0 e) .nil, ⟨hsh _, trivial⟩, fun v hv => by
          have := List.mem_singleton.1 hv
          subst this
          exact .sl (by simp) (fun x hx => by cases hx)⟩
      · cases hfu
        simp only [DataW.weights, hu] at hw
        have hwl := fits_all hw
        rw [List.all_cons, Bool.and_eq_true, List.all_append, Bool.and_eq_true] at hw
        have hwe := hw.2.1
        rw [hbytes, List.length_map, List.length_map, hlen] at hwl
        have hlb : len * E.bytes e ≤ 140737488351232 := by
          have : len * E.bytes e ≤ (len + rest.length) * E.bytes e := Nat.mul_le_mul_right _ (by omega)
          have h2 : reachBytes = 140737488351232 := rfl
          omega
        have each : ∀ i, i < len → ∃ (y : T e) (ds : List Value), W.cells? base (a.add (i * E.size (E.num e))) (E.size (E.num e)) = some ds ∧ Fcs E (allG W) (E.enc e y) ds ∧ ∀ v ∈ E.enc e y, Dom E v := fun i hi => by
          have hi' : i < elems.length := by omega
          have h1 := hel i hi
          rw [hcell, List.getElem?_eq_getElem hi', Option.bind_eq_some_iff] at h1
          obtain ⟨ds, h2, h3⟩ := h1
          obtain ⟨vs, h4, h5, h6⟩ := ih (E.num e) ds _ h3 hB (weightsAll_at hwe (i := i) (by simp [hi']))
          obtain ⟨y, h7⟩ := hT.dec e vs hB h5
          have h8 := hdec e vs y h7
          have hfz : ∀ {ts : List Nat} {vs : List (V T)}, Shape E ts vs → frzs vs = some vs := by
            intro ts
            induction ts with
            | nil => intro vs h; rw [shape_nil h]; rfl
            | cons t ts iht =>
              intro vs h
              obtain ⟨v, vs', rfl, k1, k2⟩ := shape_cons h
              have : v.frz = some v := by
                unfold ShapeV at k1
                split at k1
                · obtain ⟨_, rfl⟩ := k1; rfl
                · obtain ⟨_, rfl⟩ := k1; rfl
                · obtain ⟨_, rfl⟩ := k1; rfl
                · obtain ⟨_, rfl⟩ := k1; rfl
                · exact k1.elim
              simp only [frzs, this, iht k2]
          rw [hfz h5] at h8
          cases h8
          exact ⟨y, ds, h2, h4, h6⟩
        by_cases hz : len = 0
        · subst hz
          exact ⟨[.sl e [] .no], .cons (.sle e a cap) .nil, ⟨hsh _, trivial⟩, fun v hv => by
            have := List.mem_singleton.1 hv
            subst this
            exact .sl (by simp) (fun x hx => by cases hx)⟩
        · have hcellsat : ∀ {i : Nat} {ds : List Value}, W.cells? base (a.add (i * E.size (E.num e))) (E.size (E.num e)) = some ds → ds.length = E.size (E.num e) ∧ ∀ k, k < E.size (E.num e) → W.cell? ((a.add (i * E.size (E.num e))).add k) = ds[k]? := fun h => by
            have := World.cells?_some h
            exact this.2
          have hspot : a.spot = none := by
            obtain ⟨y, ds, h1, _, _⟩ := each 0 (by omega)
            obtain ⟨h2, h3⟩ := hcellsat h1
            have h4 := h3 0 (by omega)
            rw [Nat.zero_mul] at h4
            have h5 : (a.add 0).add 0 = a := by simp [Addr.add]
            rw [h5, List.getElem?_eq_getElem (by omega)] at h4
            unfold World.cell? at h4
            split at h4
            · split at h4
              · cases h4
              · rename_i hs
                simpa using hs
            · cases h4
          obtain ⟨b, off, sp⟩ := a
          simp only at hspot
          subst hspot
          let f : Nat → T e := fun i => if h : i < len then Classical.choose (each i h) else E.dflt e
          let css : Nat → List Value := fun i => if h : i < len then Classical.choose (Classical.choose_spec (each i h)) else []
          have hf : ∀ i, i < len → W.cells? base ((⟨b, off, none⟩ : Addr).add (i * E.size (E.num e))) (E.size (E.num e)) = some (css i) ∧ Fcs E (allG W) (E.enc e (f i)) (css i) ∧ ∀ v ∈ E.enc e (f i), Dom E v := fun i hi => by
            have := Classical.choose_spec (Classical.choose_spec (each i hi))
            simp only [f, css, hi, dif_pos]
            exact this
          have hget : ∀ (i : Nat) y, ((List.range len).map f)[i]? = some y → i < len ∧ y = f i := fun i y hy => by
            rw [List.getElem?_map] at hy
            by_cases hi : i < len
            · rw [List.getElem?_range hi] at hy
              simp only [Option.map_some, Option.some.injEq] at hy
              exact ⟨hi, hy.symm⟩
            · rw [List.getElem?_eq_none (by simp; omega)] at hy
              cases hy
          have hll : ((List.range len).map f).length = len := by simp
          have hfc : Fc E (allG W) (.sl e ((List.range len).map f) .no) (.slice (some ⟨b, off, none⟩) ((List.range len).map f).length cap) := .sl e _ b off cap css (by rw [hll]; exact hl) (fun i y hy => by
              obtain ⟨hi, rfl⟩ := hget i y hy
              exact (hf i hi).2.1) (fun i y hy => by
              obtain ⟨hi, rfl⟩ := hget i y hy
              intro k u hu'
              obtain ⟨h2, h3⟩ := hcellsat (hf i hi).1
              have hk : k < E.size (E.num e) := by
                have := (List.getElem?_eq_some_iff.1 hu').1
                omega
              have := h3 k hk
              rw [Addr.add_mk, Addr.add_mk, hu'] at this
              exact this)
          rw [hll] at hfc
          refine ⟨[.sl e ((List.range len).map f) .no], .cons hfc .nil, ⟨hsh _, trivial⟩, fun v hv => ?_⟩
          have := List.mem_singleton.1 hv
          subst this
          refine .sl (by rw [hll]; exact hlb) fun y hy => ?_
          obtain ⟨i, hi, rfl⟩ := List.mem_map.1 hy
          exact (hf i (by simpa using hi)).2.2
    case struct fs =>
      obtain ⟨⟨fields, hu, hfs, _⟩, hsz, _, _, hsizes⟩ := hty
      obtain ⟨xs, n, hfu, rfl, hcl, hxl, hx⟩ := DataW.trod_struct hu h
      cases hfu
      simp only [Bool.and_eq_true] at hB
      obtain ⟨hB1, hB2⟩ := hB
      split at hB2
      · rename_i l hl
        have hcts := natsB_spec hB2
        have hlen : l.length = cs.length := by rw [← hcts, hcl, sized_cells hsz]; rfl
        have := told_fields (W := W) (cs := cs) fs 0 l hl fun p hp => by
          obtain ⟨i, hi, hpi⟩ := List.getElem_of_mem hp
          have hpi' : fs[i]? = some p := by simp [hi, hpi]
          rw [hfs, List.getElem?_map] at hpi'
          cases hfi : fields.toList[i]? with
          | none => simp [hfi] at hpi'
          | some fl =>
            simp only [hfi, Option.map_some, Option.some.injEq] at hpi'
            subst hpi'
            have hfi' : fields[i]? = some fl := by simpa using hfi
            have h1 := hx i fl hfi'
            have hil : i < xs.length := by rw [hxl]; exact (Array.getElem?_eq_some_iff.1 hfi').1
            rw [List.getElem?_eq_getElem hil] at h1
            have hse := sized_cells (hsizes (fl.type, fl.offset) hp).1
            rw [hse] at h1
            have hw' : (xs[i].1.weights P fl.type).all (· ≤ reachBytes) = true := by
              simp only [DataW.weights, hu] at hw
              exact weightsEach_at hw (i := i) (by simp [hfi]) (by simp [hil])
            exact ih _ _ _ h1 (List.all_eq_true.1 hB1 _ hp) hw'
        rw [List.drop_zero, hlen, List.take_length] at this
        rw [hcts]
        exact this
      · cases hB2
    case array m e =>
      obtain ⟨hu, hsz, hse⟩ := hty
      obtain ⟨xs, n, hfu, rfl, hcl, hxl, hx⟩ := DataW.trod_array hu h
      cases hfu
      simp only [Bool.and_eq_true] at hB
      have hcts := natsB_spec hB.2
      have hse' := sized_cells hse
      have hlen : (timesCts (E.cts e) m).length = cs.length := by rw [← hcts, hcl, sized_cells hsz]; rfl
      have := told_times (W := W) (E := E) (cs := cs) (l := E.cts e) m 0 fun i hi => by
        have h1 := hx i hi
        have hil : i < xs.length := by omega
        rw [List.getElem?_eq_getElem hil, hse'] at h1
        have hw' : (xs[i].1.weights P e).all (· ≤ reachBytes) = true := by
          simp only [DataW.weights, hu] at hw
          exact weightsAll_at hw (i := i) (by simp [hil])
        rw [Nat.zero_add]
        exact ih _ _ _ h1 hB.1 hw'
      rw [List.drop_zero, hlen, List.take_length] at this
      rw [hcts]
      exact this

/-- An argument that these cells make. -/
def argV (E : Env T) (t : Nat) (vs : List (V T)) : V T := match (E.ty t).agg with
  | true => .agg vs
  | false => vs.headD .und
theorem arg_ok (hE : EnvOk P E) {tell : Nat → Bool} {N : Nat} (hT : Tells E tell N) (hdec : ∀ e cs x, E.dec e cs = some x → frzs cs = some (E.enc e x)) {t base' : Nat} {r : Reach} {v : Value} {d : DataW H} {ps : List MemPlace} (ht : tell t = true)
    (hok : Value.okWide P W r base' t v) (h : DataW.Trod enc P W base spare held t v d ps) (hw : (d.weights P t).all (· ≤ reachBytes) = true) :
    ∃ vs, Shape E (E.cts t) vs ∧ (∀ u ∈ vs, Dom E u) ∧ Rep E ⟨allG W, []⟩ (argV E t vs) v := by
  obtain ⟨fuel, h⟩ := h
  obtain ⟨vs, h1, h2, h3⟩ := open_ok hE hT hdec fuel t _ _ h ht hw
  refine ⟨vs, h2, h3, ?_⟩
  have hty := hE.ty t
  have hB := hT.at ht
  unfold tellB at hB
  have agg : ∀ c, v = .agg c → Rep E ⟨allG W, []⟩ (.agg vs) v := fun c hc => by
    subst hc
    obtain ⟨l⟩ := c
    exact .agg (g := ⟨allG W, []⟩) h1.reps h1.one
  have one : v.cells.toList = [v] → Rep E ⟨allG W, []⟩ (vs.headD .und) v := fun hc => by
    rw [hc] at h1
    cases h1 with
    | cons a b => exact .fc a
  unfold Value.okWide at hok
  unfold argV
  cases hk : E.ty t <;> rw [hk] at hty hB <;> try (cases hB; done)
  case struct fs =>
    obtain ⟨⟨fields, hu, _⟩, _⟩ := hty
    rw [hu] at hok
    obtain ⟨c, hc, _⟩ := hok
    exact agg c hc
  case array n e =>
    rw [hty.1] at hok
    obtain ⟨c, hc, _⟩ := hok
    exact agg c hc
  all_goals
    refine one ?_
    have hu := hty.1
    rw [hu] at hok
    dsimp only at hok
    unfold Cell.okWide Cell.ok at hok
    rw [hu] at hok
    cases v <;> first | rfl | exact hok.elim
/-- The world as it is: all is frozen, nothing is owned. -/
theorem inv_all (hg : ∀ gl, E.glob gl = none) (hn : ∀ gl, E.ints gl = true → ∃ m, W.cell? ⟨gl, 0, none⟩ = some (.int .i64 m)) : Inv E ⟨allG W, []⟩ [] W :=
  ⟨fun b off v h => h, rfl, fun i ob l h => by simp at h, fun i j l l' b h => by simp at h, fun gl cs h => (by rw [hg gl] at h; cases h), hn⟩
theorem left_below {g' : Gh} {obs' : List (Ob T)} {w' : World} (h : Left E ⟨allG W, []⟩ W g' obs' w') : RowKit.Below W.heap.size W w' :=
  ⟨h.ext.os, h.ext.tape, h.ext.output, h.ext.size, fun k hk => (h.ext.keeps k hk fun ⟨i, l, h1, _⟩ => by simp at h1).1⟩
end
theorem shape_frz : ∀ {ts : List Nat} {vs : List (V T)}, Shape E ts vs → frzs vs = some vs
  | [], vs, h => by rw [shape_nil h]; rfl
  | t :: ts, vs, h => by
    obtain ⟨v, vs', rfl, k1, k2⟩ := shape_cons h
    have : v.frz = some v := by
      unfold ShapeV at k1
      split at k1
      · obtain ⟨_, rfl⟩ := k1; rfl
      · obtain ⟨_, rfl⟩ := k1; rfl
      · obtain ⟨_, rfl⟩ := k1; rfl
      · obtain ⟨_, rfl⟩ := k1; rfl
      · exact k1.elim
    simp only [frzs, this, shape_frz k2]
theorem shape_enc (hdec : ∀ e cs x, E.dec e cs = some x → frzs cs = some (E.enc e x)) {ts : List Nat} {e : K} {vs : List (V T)} {x : T e} (h : Shape E ts vs) (hx : E.dec e vs = some x) : vs = E.enc e x := by
  have := hdec e vs x hx
  rw [shape_frz h] at this
  cases this
  rfl
end Go.Proofs.YtnenfgpjedddoaaGreat.AI
