/- Each operation does what the abstract interpreter says: maps. -/
import Derived.Test.YtnenfgpjedddoaaGreatAIOps11
set_option linter.unusedVariables false
set_option linter.unusedSectionVars false
set_option linter.unusedSimpArgs false
namespace Go.Proofs.YtnenfgpjedddoaaGreat.AI
open Go

variable {K : Type} [DecidableEq K] {T : K → Type} {E : Env T} {P : Program}
section
variable {g : Gh} {st : List (Ob T)} {w : World} {fr : Fr T} {a : Act} (o : Oper)

/-- A key's cell. -/
theorem leaf_same {t : Nat} (ht : TyOk P E t (E.ty t)) (hk : (E.ty t).keyed = true) {a b : V T} {p q : Value} {G : Nat → Nat → Option Value} (hp : Fc E G a p) (hq : Fc E G b q) {r : Bool} (h : eqLeaf (E.ty t) a b = some r) :
    (r = true ↔ p = q) ∧ (∀ n, Instr.sameBits n p p = true) ∧ ∀ d, P.underlying t = some d → Instr.sameNow d p q = some r := by
  unfold eqLeaf at h
  cases hty : E.ty t <;> rw [hty] at ht hk h <;> first
    | (cases hk; done)
    | skip
  · dsimp only at h
    split at h
    · split at h
      · rename_i hkk
        have := eq_of_beq hkk
        subst this
        simp only [Option.some.injEq] at h
        subst h
        cases hp; cases hq
        refine ⟨by simp, fun n => by cases n <;> simp [Instr.sameBits], fun d hd => ?_⟩
        rw [ht.1] at hd
        cases hd
        simp [Instr.sameNow]
      · cases h
    · cases h
  · dsimp only at h
    split at h
    · simp only [Option.some.injEq] at h
      subst h
      cases hp; cases hq
      refine ⟨by simp, fun n => by cases n <;> simp [Instr.sameBits], fun d hd => ?_⟩
      rw [ht.1] at hd
      cases hd
      simp [Instr.sameNow]
    · cases h
  · dsimp only at h
    split at h
    · rename_i s s'
      simp only [Option.some.injEq] at h
      subst h
      cases hp; cases hq
      refine ⟨?_, fun n => by cases n <;> (simp [Instr.sameBits]; rw [byteArray_beq]; simp), fun d hd => ?_⟩
      · rw [beq_iff_eq]
        exact ⟨fun h => by rw [h], fun h => by simpa using h⟩
      · rw [ht.1] at hd
        cases hd
        simp only [Instr.sameNow]; rw [byteArray_beq]
    · cases h
theorem keyed_size {t : Nat} (ht : TyOk P E t (E.ty t)) (hk : (E.ty t).keyed = true) : E.size t = 1 := by
  cases hty : E.ty t <;> rw [hty] at ht hk <;> first
    | (cases hk; done)
    | simp [Env.size, ht.2.2]
theorem eqT_leaf {d t : Nat} {xs ys : List (V T)} {r : Bool} (hk : (E.ty t).keyed = true) (h : eqT E d t xs ys = some r) : ∃ x y, xs = [x] ∧ ys = [y] ∧ eqLeaf (E.ty t) x y = some r := by
  cases d with
  | zero => simp [eqT] at h
  | succ d =>
    unfold eqT at h
    cases hty : E.ty t <;> rw [hty] at h hk <;> first
      | (cases hk; done)
      | (dsimp only at h
         split at h
         · exact ⟨_, _, rfl, rfl, h⟩
         · cases h)
/-- A row of keys' cells. -/
theorem flat_same (hE : EnvOk P E) {G : Nat → Nat → Option Value} {n d : Nat} : ∀ (fs : List (Nat × Nat)) (o : Nat) {xs ys : List (V T)} {vs us : List Value} {r : Bool}, flat E fs o n = true → Fcs E G xs vs → Fcs E G ys us → vs.length = n → us.length = n → eqF E d fs xs ys = some r →
    (r = true ↔ vs.drop o = us.drop o) ∧ ∀ v ∈ vs.drop o, ∀ m, Instr.sameBits m v v = true
  | [], o, xs, ys, vs, us, r, hf, hx, hy, hn, hm, h => by
    have ho := Nat.eq_of_beq_eq_true hf
    simp only [eqF, Option.some.injEq] at h
    subst h
    rw [List.drop_eq_nil_of_le (by omega), List.drop_eq_nil_of_le (by omega)]
    exact ⟨by simp, fun v hv => by cases hv⟩
  | (u, p) :: fs, o, xs, ys, vs, us, r, hf, hx, hy, hn, hm, h => by
    simp only [flat, Bool.and_eq_true] at hf
    obtain ⟨h1, h2, h3⟩ := hf
    have hpo := Nat.eq_of_beq_eq_true h1
    subst hpo
    cases d with
    | zero => simp [eqF] at h
    | succ d =>
      simp only [eqF] at h
      split at h
      case h_2 => cases h
      rename_i hlen
      simp only [Bool.and_eq_true] at hlen
      have hs := keyed_size (hE.ty u) h2
      have hl1 := Nat.le_of_ble_eq_true hlen.1
      have hl2 := Nat.le_of_ble_eq_true hlen.2
      rw [hs] at hl1 hl2
      split at h
      case h_2 => cases h
      rename_i a b ha hb
      simp only [Option.some.injEq] at h
      subst h
      obtain ⟨x, y, e1, e2, e3⟩ := eqT_leaf h2 ha
      rw [hs] at e1 e2
      have hxl := hx.length
      have hyl := hy.length
      have hv : p < vs.length := by omega
      have hu : p < us.length := by omega
      have hx1 : Fc E G x vs[p] := by
        have := (hx.drop p).take 1
        rw [e1, List.drop_eq_getElem_cons hv, List.take_succ_cons, List.take_zero] at this
        cases this with
        | cons h _ => exact h
      have hy1 : Fc E G y us[p] := by
        have := (hy.drop p).take 1
        rw [e2, List.drop_eq_getElem_cons hu, List.take_succ_cons, List.take_zero] at this
        cases this with
        | cons h _ => exact h
      obtain ⟨k1, k2, _⟩ := leaf_same (hE.ty u) h2 hx1 hy1 e3
      obtain ⟨k3, k4⟩ := flat_same hE fs (p + 1) h3 hx hy hn hm hb
      rw [List.drop_eq_getElem_cons hv, List.drop_eq_getElem_cons hu]
      refine ⟨?_, fun v hvm m => ?_⟩
      · rw [Bool.and_eq_true, k1, k3, List.cons.injEq]
      · rcases List.mem_cons.1 hvm with rfl | hvm
        · exact k2 m
        · exact k4 v hvm m
theorem run_checkFields (hE : EnvOk P E) {vs : List Value} {n : Nat} (hvs : vs.length = n) (b : Bool) (m : Nat) (hc : ∀ t p, (E.ty t).keyed = true → (Instr.checkKey b m t p).run P w = .ok () w) : ∀ (fs : List Field) (o : Nat), flat E (fs.map fun f => (f.type, f.offset)) o n = true →
    (forIn fs PUnit.unit (fun f _ =>
      if f.name ≠ "_" then do
        let x ← part f.type ⟨vs⟩ f.offset
        Instr.checkKey b m f.type x
        pure (ForInStep.yield PUnit.unit)
      else pure (ForInStep.yield PUnit.unit) : Field → PUnit → Sem (ForInStep PUnit))).run P w = .ok PUnit.unit w
  | [], o, _ => by simp
  | f :: fs, o, h => by
    simp only [List.map_cons, flat, Bool.and_eq_true] at h
    obtain ⟨h1, h2, h3⟩ := h
    have hpo := Nat.eq_of_beq_eq_true h1
    have hs := keyed_size (hE.ty f.type) h2
    have hlt : o < n := by
      have : ∀ (fs : List (Nat × Nat)) (o : Nat), flat E fs o n = true → o ≤ n := by
        intro fs
        induction fs with
        | nil => intro o h; exact Nat.le_of_eq (Nat.eq_of_beq_eq_true h)
        | cons q fs ih =>
          intro o h
          obtain ⟨u, p⟩ := q
          simp only [flat, Bool.and_eq_true] at h
          have := ih _ h.2.2
          omega
      have := this _ _ h3
      omega
    have hkn : (E.ty f.type).known = true := by
      cases hty : E.ty f.type <;> rw [hty] at h2 <;> first | rfl | cases h2
    obtain ⟨p, hp, _⟩ := part_ok (P := P) (w := w) hE (vs := vs) (u := f.type) (o := f.offset) hkn (by omega)
    have ih := run_checkFields hE hvs b m hc fs (o + 1) h3
    rw [List.forIn_cons]
    by_cases hn : f.name = "_"
    · simp only [hn, ne_eq, not_true_eq_false, if_false, Sem.run_bind, Sem.run_pure, Result.andThen_ok]
      simpa using ih
    · simp only [hn, ne_eq, not_false_eq_true, if_true, Sem.run_bind, hp, hc _ _ h2, Sem.run_pure, Result.andThen_ok]
      simpa using ih
theorem run_checkKey' {t : Nat} {p : Value} (b : Bool) (ht : TyOk P E t (E.ty t)) (hk : (E.ty t).keyed = true) (n : Nat) : (Instr.checkKey b (n + 1) t p).run P w = .ok () w := by
  cases hty : E.ty t <;> rw [hty] at ht hk <;> first
    | (cases hk; done)
    | (simp only [Instr.checkKey, Sem.run_bind, run_underlying ht.1, Result.andThen_ok]
       cases p <;> rfl)
theorem run_checkStruct (hE : EnvOk P E) {t : Nat} {vs : List Value} {fs : List (Nat × Nat)} (hty : E.ty t = .struct fs) (b : Bool) (m : Nat) (hk : flat E fs 0 (E.size t) = true) (hn : vs.length = E.size t) : (Instr.checkKey b (m + 2) t (.agg ⟨vs⟩)).run P w = .ok () w := by
  have ht := hE.ty t
  rw [hty] at ht
  obtain ⟨⟨fields, hu, hfs, hnm⟩, _⟩ := ht
  rw [hfs] at hk
  have := run_checkFields (w := w) hE hn b (m + 1) (fun t p h => run_checkKey' b (hE.ty t) h m) fields.toList 0 hk
  rw [Instr.checkKey]
  simp only [Sem.run_bind, run_underlying hu, Result.andThen_ok]
  rw [← Array.forIn_toList, this]
  rfl
theorem run_checkKey (hE : EnvOk P E) {t : Nat} {p : Value} {vs : List Value} (b : Bool) (hk : keyedT E t = true) (hc : CellsOf E t p vs) (hn : vs.length = E.size t) : (Instr.checkKey b 10000 t p).run P w = .ok () w := by
  have ht := hE.ty t
  unfold keyedT at hk
  split at hk
  · rename_i fs hty
    simp only [CellsOf, hty, Ty.agg] at hc
    subst hc
    exact run_checkStruct hE hty b 9998 hk hn
  · exact run_checkKey' b ht hk 9999
theorem keyed_desc (hE : EnvOk P E) {e : K} (hk : keyedT E (E.num e) = true) : ∃ d, P.underlying (E.num e) = some d := by
  have ht := hE.ty (E.num e)
  unfold keyedT at hk
  split at hk
  · rename_i fs hty
    rw [hty] at ht
    obtain ⟨⟨fields, hu, _⟩, _⟩ := ht
    exact ⟨_, hu⟩
  · cases hty : E.ty (E.num e) <;> rw [hty] at ht hk <;> first | (cases hk; done) | exact ⟨_, ht.1⟩
/-- Two keys. -/
theorem key_same (hE : EnvOk P E) {e : K} (hk : keyedT E (E.num e) = true) {d : TypeDesc} (hu : P.underlying (E.num e) = some d) {x y : T e} {p q : Value} {pcs qcs : List Value} {G : Nat → Nat → Option Value}
    (hp : Fcs E G (E.enc e x) pcs) (hp' : CellsOf E (E.num e) p pcs) (hq : Fcs E G (E.enc e y) qcs) (hq' : CellsOf E (E.num e) q qcs) :
    (Instr.sameNow d p q = some (E.eqb e x y) ∨ Instr.sameNow d p q = none) ∧ (∀ w, (Op.equal (E.num e) p q).run P w = .ok (E.eqb e x y) w) ∧ (E.eqb e x y = true ↔ p = q) ∧ Instr.sameBits 10000 p p = true := by
  have h3 := hE.key e hk x y
  have heq : ∀ w, (Op.equal (E.num e) p q).run P w = .ok (E.eqb e x y) w := fun w => by
    have := (eq_ok (P := P) (w := w) (g := ⟨G, []⟩) hE 100).1 (E.num e) _ _ _ _ _ p q 10000 h3 (Fcs.reps hp) (Fcs.reps hq) hp' hq' (by omega)
    simpa [Op.equal, Op.maxDepth] using this
  have ht := hE.ty (E.num e)
  unfold keyedT at hk
  split at hk
  · rename_i fs hty
    rw [hty] at ht
    simp only [CellsOf, hty, Ty.agg] at hp' hq'
    subst hp'; subst hq'
    obtain ⟨⟨fields, hu', hfs, hnm⟩, _⟩ := ht
    rw [hu] at hu'
    cases hu'
    have hpl : pcs.length = E.size (E.num e) := by rw [← hp.length, hE.encLen]
    have hql : qcs.length = E.size (E.num e) := by rw [← hq.length, hE.encLen]
    have hF : eqF E 99 fs (E.enc e x) (E.enc e y) = some (E.eqb e x y) := by
      unfold eqT at h3
      rw [hty] at h3
      exact h3
    obtain ⟨k1, k2⟩ := flat_same hE fs 0 hk hp hq hpl hql hF
    refine ⟨.inr rfl, heq, ?_, ?_⟩
    · rw [k1]; simp
    · simp only [Instr.sameBits, beq_self_eq_true, Bool.true_and, List.all_eq_true]
      intro ab hab
      obtain ⟨a, b⟩ := ab
      have hz : ∀ (l : List Value), (a, b) ∈ l.zip l → a = b ∧ a ∈ l := by
        intro l
        induction l with
        | nil => intro h; cases h
        | cons c l ih =>
          intro h
          rw [List.zip_cons_cons] at h
          rcases List.mem_cons.1 h with h | h
          · cases h; exact ⟨rfl, List.mem_cons_self ..⟩
          · exact ⟨(ih h).1, List.mem_cons_of_mem _ (ih h).2⟩
      obtain ⟨rfl, hm⟩ := hz _ hab
      exact k2 a (by simpa using hm) 9999
  · rename_i hnst
    obtain ⟨a, b, e1, e2, e3⟩ := eqT_leaf hk h3
    rw [e1] at hp
    rw [e2] at hq
    have hag : (E.ty (E.num e)).agg = false := by cases hty : E.ty (E.num e) <;> rw [hty] at hk <;> first | rfl | cases hk
    simp only [CellsOf, hag] at hp' hq'
    subst hp'; subst hq'
    have hp1 : Fc E G a p := by cases hp with | cons h _ => exact h
    have hq1 : Fc E G b q := by cases hq with | cons h _ => exact h
    obtain ⟨k1, k2, k3⟩ := leaf_same ht hk hp1 hq1 e3
    exact ⟨.inl (k3 d hu), heq, k1, k2 10000⟩
/-- The search for a key. -/
def Finds (P : Program) (kt : Nat) (d : TypeDesc) (p : Value) (es : List MapEntry) (i : Nat) (r : Option (Nat × Value)) : Prop :=
  (Instr.findNow d p es i = some r ∨ Instr.findNow d p es i = none) ∧ ∀ w, (Instr.findAsking kt p es i).run P w = .ok r w
theorem Finds.run {kt : Nat} {d : TypeDesc} {p : Value} {es : List MapEntry} {r : Option (Nat × Value)} (h : Finds P kt d p es 0 r) (hd : P.underlying kt = some d) : (Instr.findKey kt p es).run P w = .ok r w := by
  unfold Instr.findKey
  simp only [Sem.run_bind, run_underlying hd, Result.andThen_ok]
  rcases h.1 with h1 | h1
  · rw [h1]; rfl
  · rw [h1]; exact h.2 w

theorem Ents.keys {kt et : K} : ∀ {ps : List (T kt × T et)} {es : List MapEntry} {bs : List (Value × Nat)}, Ents E g kt et ps es bs → bs = es.map fun e => (e.key, e.born)
  | _, _, _, .nil => rfl
  | _, _, _, .cons _ _ _ _ h => by rw [List.map_cons, ← Ents.keys h]
theorem Ents.find (hE : EnvOk P E) {kt et : K} (hk : keyedT E (E.num kt) = true) {d : TypeDesc} (hu : P.underlying (E.num kt) = some d) {key : T kt} {p : Value} {pcs : List Value} (hp : Fcs E g.G (E.enc kt key) pcs) (hp' : CellsOf E (E.num kt) p pcs) :
    ∀ {ps : List (T kt × T et)} {es : List MapEntry} {bs : List (Value × Nat)}, Ents E g kt et ps es bs → ∀ i,
      (Finds P (E.num kt) d p es i none ∧ lookupT kt et E ps key = none ∧ (∀ v, updT kt et E ps key v = ps ++ [(key, v)]) ∧ p ∉ bs.map (·.1)) ∨
      (∃ j e v vcs, es[j]? = some e ∧ e.key = p ∧ Finds P (E.num kt) d p es i (some (i + j, e.val)) ∧ lookupT kt et E ps key = some v ∧ Fcs E g.G (E.enc et v) vcs ∧ CellsOf E (E.num et) e.val vcs ∧
        ∀ v' x xcs (f : MapEntry → MapEntry), Fcs E g.G (E.enc et v') xcs → CellsOf E (E.num et) x xcs → (f e).key = p → (f e).val = x → (f e).born = e.born → Ents E g kt et (updT kt et E ps key v') (es.modify j f) bs)
  | _, _, _, .nil, i => .inl ⟨⟨.inl rfl, fun w => rfl⟩, rfl, fun _ => rfl, by simp⟩
  | _, _, _, .cons (p := q) (ps := ps) (e := e) (es := es) (bs := bs) hkc hkc' hvc hvc' h, i => by
    obtain ⟨h1, hE1, h2, h3⟩ := key_same hE hk hu hp hp' hkc hkc'
    cases hb : E.eqb kt key q.1 with
    | true =>
      right
      rw [hb] at h1 hE1
      have hpe := h2.1 hb
      refine ⟨0, e, q.2, _, rfl, hpe.symm, ⟨?_, fun w => by simp [Instr.findAsking, hE1]⟩, by simp [lookupT, hb], hvc, hvc', fun v' x xcs f hx hx' f1 f2 f3 => ?_⟩
      · rcases h1 with h1 | h1
        · left; simp [Instr.findNow, h1]
        · right; simp [Instr.findNow, h1]
      have : updT kt et E (q :: ps) key v' = (key, v') :: ps := by simp [updT, hb]
      rw [this]
      rw [List.modify_zero_cons, show ((e.key, e.born) :: bs) = (((f e).key, (f e).born) :: bs) by rw [f1, f3, hpe]]
      exact .cons (kcs := pcs) (vcs := xcs) hp (by rw [f1]; exact hp') hx (by rw [f2]; exact hx') h
    | false =>
      rw [hb] at h1 hE1
      have hpe : p ≠ e.key := fun he => by rw [h2.2 he] at hb; cases hb
      have up : ∀ {r}, Finds P (E.num kt) d p es (i + 1) r → Finds P (E.num kt) d p (e :: es) i r := fun {r} hr => by
        refine ⟨?_, fun w => by simp [Instr.findAsking, hE1, hr.2 w]⟩
        rcases h1 with h1 | h1
        · rcases hr.1 with hr | hr
          · left; simp [Instr.findNow, h1, hr]
          · right; simp [Instr.findNow, h1, hr]
        · right; simp [Instr.findNow, h1]
      rcases Ents.find hE hk hu hp hp' h (i + 1) with ⟨a1, a2, a3, a4⟩ | ⟨j, e', v, vcs, a1, a2, a3, a4, a5, a6, a7⟩
      · left
        refine ⟨up a1, by simp [lookupT, hb, a2], fun v => by simp [updT, hb, a3], ?_⟩
        simp only [List.map_cons, List.mem_cons, not_or]
        exact ⟨hpe, a4⟩
      · right
        refine ⟨j + 1, e', v, vcs, by simpa using a1, a2, by rw [show i + (j + 1) = i + 1 + j by omega]; exact up a3, by simp [lookupT, hb, a4], a5, a6, fun v' x xcs f hx hx' f1 f2 f3 => ?_⟩
        have : updT kt et E (q :: ps) key v' = q :: updT kt et E ps key v' := by simp [updT, hb]
        rw [this, List.modify_succ_cons]
        exact .cons hkc hkc' hvc hvc' (a7 v' x xcs f hx hx' f1 f2 f3)
theorem Ents.snoc {kt et : K} {key : T kt} {v : T et} {e : MapEntry} {kcs vcs : List Value} (h1 : Fcs E g.G (E.enc kt key) kcs) (h2 : CellsOf E (E.num kt) e.key kcs) (h3 : Fcs E g.G (E.enc et v) vcs) (h4 : CellsOf E (E.num et) e.val vcs) :
    ∀ {ps : List (T kt × T et)} {es : List MapEntry} {bs : List (Value × Nat)}, Ents E g kt et ps es bs → Ents E g kt et (ps ++ [(key, v)]) (es ++ [e]) (bs ++ [(e.key, e.born)])
  | _, _, _, .nil => .cons h1 h2 h3 h4 .nil
  | _, _, _, .cons a b c d h => .cons a b c d (Ents.snoc h1 h2 h3 h4 h)

theorem ofCells_ok {t : Nat} {cs : List (V T)} {v : V T} {vs : List Value} {x : Value} (h : ofCells E t cs = some v) (hc : Fcs E g.G cs vs) (hx : CellsOf E t x vs) : Rep E g v x := by
  unfold ofCells at h
  unfold CellsOf at hx
  cases ha : (E.ty t).agg with
  | true =>
    rw [ha] at h hx
    dsimp only at h hx
    simp only [Option.some.injEq] at h
    subst h; subst hx
    exact .agg hc.reps hc.one
  | false =>
    rw [ha] at h hx
    dsimp only at h hx
    subst hx
    cases hc with
    | cons a b =>
      simp only [List.head?_cons, Option.some.injEq] at h
      subst h
      exact .fc a
theorem elemOf_ok (hE : EnvOk P E) {e : K} {k : V T} {x : T e} {p : Value} (h : elemOf E e k = some x) (hp : Rep E g k p) : Fcs E g.G (E.enc e x) p.cells.toList ∧ CellsOf E (E.num e) p p.cells.toList := by
  unfold elemOf at h
  split at h
  · rename_i hk
    have hfc := hE.dec g e _ _ _ h hp.cells
    refine ⟨hfc, ?_⟩
    unfold valOk at hk
    unfold CellsOf
    cases ha : (E.ty (E.num e)).agg with
    | true =>
      rw [ha] at hk
      cases k <;> first
        | (cases hk; done)
        | (obtain ⟨vs, _, _, rfl⟩ := hp.agg_inv
           rfl)
    | false =>
      rw [ha] at hk
      dsimp only
      cases p with
      | agg ps =>
        cases hp <;> first
          | (cases hk; done)
          | (rename_i hh; cases hh)
      | _ => rfl
  · cases h

theorem keyOf_ok (hE : EnvOk P E) {e : K} {k : V T} {key : T e} {p : Value} (h : keyOf E e k = some key) (hp : Rep E g k p) : keyedT E (E.num e) = true ∧ Fcs E g.G (E.enc e key) p.cells.toList ∧ CellsOf E (E.num e) p p.cells.toList ∧ p.cells.toList.length = E.size (E.num e) := by
  unfold keyOf at h
  split at h
  · rename_i hk
    obtain ⟨h1, h2⟩ := elemOf_ok hE h hp
    exact ⟨hk, h1, h2, by rw [← h1.length, hE.encLen]⟩
  · cases h

section
variable {t i : Nat} {kt et : K} {r : Nat} {es : Array MapEntry} {clock : Nat}
theorem lookup_run (hE : EnvOk P E) (hu : P.underlying t = some (.map (E.num kt) (E.num et))) (hh : w.heap[r]? = some (.map es clock)) {p : Value} {d : TypeDesc} (hd : P.underlying (E.num kt) = some d) (hc : ∀ b, (Instr.checkKey b 10000 (E.num kt) p).run P w = .ok () w)
    {v : Value} {there : Bool} (ok : Bool) (hf : (∃ j, Finds P (E.num kt) d p es.toList 0 (some (j, v)) ∧ there = true) ∨ (Finds P (E.num kt) d p es.toList 0 none ∧ there = false ∧ ∃ inf, P.info? (E.num et) = some inf ∧ inf.zero = some v)) :
    (Instr.lookup t (.map (some r)) p ok).run P w = .ok (if ok = true then .tuple #[v, .bool there] else v) w := by
  have hg := run_getObj (P := P) hh (by simp)
  rcases hf with ⟨j, h1, rfl⟩ | ⟨h1, rfl, inf, h2, h3⟩
  · simp [Instr.lookup, run_underlying hu, hg, hc, h1.run hd]
  · simp [Instr.lookup, run_underlying hu, hg, hc, h1.run hd, zeroValue, typeInfo, h2, h3]
end

theorem lookup_ok (hE : EnvOk P E) {t : Nat} {m x : Operand} {ok : Bool} (hi : Inv E g st w) (hf : FrOk E g fr a.tmps) {k : Ask T} (h : lookupA E fr o t m x ok = some k) (hop : o.op = .lookup t m x ok) :
    SoundAsk P E g st w ((execOp a.eval o).run P w) k := by
  have ht := hE.ty t
  unfold lookupA at h
  split at h
  case h_2 => cases h
  rename_i k0 e0 i kv hty hm hx
  rw [hty] at ht
  simp only [Option.some.injEq] at h
  subst h
  intro ob v hob hl
  obtain ⟨r, bs, hM, hmv⟩ := (evalO_ok hf hm).map_inv
  have hok := hi.obs i _ _ hob hM
  unfold lookK at hl
  split at hl
  case h_2 => cases hl
  rename_i kt et ents
  split at hl
  case h_2 => cases hl
  rename_i key z hck hkey hz
  simp only [Bool.and_eq_true, decide_eq_true_eq] at hck
  obtain ⟨rfl, rfl⟩ := hck
  split at hl
  case h_2 => cases hl
  rename_i v' hv'
  simp only [Option.some.injEq, Prod.mk.injEq, true_and] at hl
  subst hl
  obtain ⟨hk, hp, hp', hpl⟩ := keyOf_ok hE hkey (evalO_ok hf hx)
  obtain ⟨es, clock, hh, hen, _, _, _⟩ := hok
  obtain ⟨d, hd⟩ := keyed_desc hE hk
  have hc := fun b => run_checkKey (P := P) (w := w) (p := a.eval x) hE b hk hp' hpl
  obtain ⟨inf, zx, vs, z1, z2, _, _, _, _, _, _, z3, z4⟩ := zeroT_ok hE g.G hz
  have key : ∀ {u : Value} {there : Bool}, Rep E g v' u → there = (lookupT kt et E ents key).isSome → (Instr.lookup t (.map (some r)) (a.eval x) ok).run P w = .ok (if ok = true then .tuple #[u, .bool there] else u) w →
      Gives E g w ((execOp a.eval o).run P w) st (lookRes ok (lookupT kt et E ents key).isSome v') := fun {u there} h1 h2 h3 => by
    subst h2
    refine .here hi (x := if ok = true then .tuple #[u, .bool (lookupT kt et E ents key).isSome] else u) (by simp [execOp, hop, hmv, h3]) ?_
    cases ok
    · exact h1
    · exact .tup (.cons h1 (.cons (.bool _ _) .nil))
  rcases hen.find hE hk hd hp hp' 0 with ⟨a1, a2, a3, a4⟩ | ⟨j, e, v, vcs, a1, a2, a3, a4, a5, a6, a7⟩
  · rw [a2] at hv'
    refine key (ofCells_ok hv' z3 z4) (there := false) (by rw [a2]; rfl) ?_
    exact lookup_run hE ht.1 hh hd hc ok (.inr ⟨a1, rfl, inf, z1, z2⟩)
  · rw [a4] at hv'
    refine key (ofCells_ok hv' a5 a6) (there := true) (by rw [a4]; rfl) ?_
    exact lookup_run hE ht.1 hh hd hc ok (.inl ⟨_, a3, rfl⟩)

theorem ents_le {g g' : Gh} (hG : g'.G = g.G) {kt et : K} : ∀ {ps : List (T kt × T et)} {es : List MapEntry} {bs : List (Value × Nat)}, Ents E g kt et ps es bs → Ents E g' kt et ps es bs
  | _, _, _, .nil => .nil
  | _, _, _, .cons a b c d h => .cons (by rw [hG]; exact a) b (by rw [hG]; exact c) d (ents_le hG h)
/-- A map that gets new entries, or whose entries change. -/
theorem map_write (hi : Inv E g st w) {i r : Nat} {kt et : K} {ents ents' : List (T kt × T et)} {bs bs' : List (Value × Nat)} {es es' : Array MapEntry} {clock clock' : Nat} (hob : st[i]? = some (.map kt et ents)) (hM : g.M[i]? = some (.map r bs))
    (hh : w.heap[r]? = some (.map es clock)) (hen : Ents E g kt et ents' es'.toList bs') (hsub : ∀ p ∈ bs, p ∈ bs') (hb : ∀ p ∈ bs', p.2 < clock') (h1 : (bs'.map (·.2)).Nodup) (h2 : (bs'.map (·.1)).Nodup) :
    ∃ g', To E g w g' (st.set i (.map kt et ents')) { w with heap := w.heap.setIfInBounds r (.map es' clock') } ∧ g'.M[i]? = some (.map r bs') := by
  have hr : r < w.heap.size := heap_lt hh
  have hnone : ∀ off, g.G r off = none := fun off => by
    cases hg : g.G r off with
    | none => rfl
    | some v =>
      have := hi.froz _ _ _ hg
      simp [World.cell?, hh] at this
  have hstep := hi.step (w' := { w with heap := w.heap.setIfInBounds r (.map es' clock') }) (ob' := .map kt et ents') (l' := .map r bs') (G' := g.G) hob hM ⟨rfl, hsub⟩ (.refl _) (fun b off v hv => by
      by_cases hb : b = r
      · subst hb; rw [hnone] at hv; cases hv
      · have : (w.heap.setIfInBounds r (.map es' clock'))[b]? = w.heap[b]? := Array.getElem?_setIfInBounds_ne (fun e => hb e.symm)
        rw [cell?_block (w := w) this]; exact hi.froz b off v hv)
    rfl rfl rfl (by simp) (fun b _ hne => ⟨Array.getElem?_setIfInBounds_ne (fun e => hne (by rw [e]; rfl)), fun _ => rfl⟩) (fun b hb => .inl hb)
    ⟨es', clock', by show (w.heap.setIfInBounds r (.map es' clock'))[r]? = _; simp [hr], ents_le (g := g) (g' := ⟨g.G, g.M.set i (.map r bs')⟩) rfl hen, hb, h1, h2⟩
  exact ⟨_, ⟨hstep.2.2, hstep.1, hstep.2.1⟩, List.getElem?_set_self (List.getElem?_eq_some_iff.1 hM).1⟩

theorem keyStays {p : Value} (h : Instr.sameBits 10000 p p = true) : (Instr.keyThatStays p p).run P w = .ok p w := by
  simp [Instr.keyThatStays, h]

theorem mapUpdate_ok (hE : EnvOk P E) {t : Nat} {m x y : Operand} (hi : Inv E g st w) (hf : FrOk E g fr a.tmps) {k : Ask T} (h : mapUpdateA E fr o t m x y = some k) (hop : o.op = .mapUpdate t m x y) :
    SoundAsk P E g st w ((execOp a.eval o).run P w) k := by
  have ht := hE.ty t
  unfold mapUpdateA at h
  split at h
  case h_2 => cases h
  rename_i k0 e0 i kv xv hty hm hx hy
  rw [hty] at ht
  simp only [Option.some.injEq] at h
  subst h
  intro ob ob' v hob hl
  obtain ⟨r, bs, hM, hmv⟩ := (evalO_ok hf hm).map_inv
  have hok := hi.obs i _ _ hob hM
  unfold updK at hl
  split at hl
  case h_2 => cases hl
  rename_i kt et ents
  split at hl
  case h_2 => cases hl
  rename_i key val hck hkey hval
  simp only [Bool.and_eq_true, decide_eq_true_eq] at hck
  obtain ⟨rfl, rfl⟩ := hck
  simp only [Option.some.injEq, Prod.mk.injEq, true_and] at hl
  obtain ⟨rfl, rfl⟩ := hl
  obtain ⟨hk, hp, hp', hpl⟩ := keyOf_ok hE hkey (evalO_ok hf hx)
  obtain ⟨hv, hv'⟩ := elemOf_ok hE hval ((evalO_ok hf hy).coerce _)
  obtain ⟨es, clock, hh, hen, hlt, hn2, hn1⟩ := hok
  obtain ⟨d, hd⟩ := keyed_desc hE hk
  have hg := run_getObj (P := P) hh (by simp)
  have hc := fun b => run_checkKey (P := P) (w := w) (p := a.eval x) hE b hk hp' hpl
  have hsb := (key_same hE hk hd hp hp' hp hp').2.2.2
  have hkeys := hen.keys
  rcases hen.find hE hk hd hp hp' 0 with ⟨a1, a2, a3, a4⟩ | ⟨j, e, v, vcs, a1, a2, a3, a4, a5, a6, a7⟩
  · rw [a3]
    have hs := run_setObj (P := P) (ob' := .map (es.push { key := a.eval x, val := a.eval y, born := clock }) (clock + 1)) hh (by simp)
    obtain ⟨g', h1, _⟩ := map_write (es' := es.push { key := a.eval x, val := a.eval y, born := clock }) (clock' := clock + 1) (ents' := ents ++ [(key, val)]) (bs' := bs ++ [(a.eval x, clock)]) hi hob hM hh
      (by
        rw [Array.toList_push]
        exact Ents.snoc (e := { key := a.eval x, val := a.eval y, born := clock }) hp hp' hv hv' hen)
      (fun p hp => List.mem_append_left _ hp) (fun p hp => by
        rcases List.mem_append.1 hp with hp | hp
        · have := hlt p hp; omega
        · simp only [List.mem_singleton] at hp; subst hp; simp)
      (by
        rw [List.map_append, List.nodup_append]
        refine ⟨hn2, by simp, ?_⟩
        intro q hq r' hr'
        obtain ⟨p, hp, rfl⟩ := List.mem_map.1 hq
        have := hlt p hp
        simp only [List.map_cons, List.map_nil, List.mem_singleton] at hr'
        omega)
      (by
        rw [List.map_append, List.nodup_append]
        refine ⟨hn1, by simp, ?_⟩
        intro q hq r' hr' he
        simp only [List.map_cons, List.map_nil, List.mem_singleton] at hr'
        subst hr'; subst he
        exact a4 hq)
    refine ⟨g', _, ?_, h1⟩
    simp [execOp, hop, hmv, Instr.mapUpdate, run_underlying ht.1, hg, hc, a1.run hd, hs]
  · have hej : es[j]? = some e := by rw [← Array.getElem?_toList]; exact a1
    have hs := run_setObj (P := P) (ob' := .map (es.modify j fun e => { e with key := a.eval x, val := a.eval y }) clock) hh (by simp)
    have hst := keyStays (P := P) (w := w) hsb
    obtain ⟨g', h1, _⟩ := map_write (es' := es.modify j fun e => { e with key := a.eval x, val := a.eval y }) (clock' := clock) (ents' := updT kt et E ents key val) (bs' := bs) hi hob hM hh
      (by
        rw [Array.toList_modify]
        exact a7 val _ _ _ hv hv' rfl rfl rfl)
      (fun p hp => hp) hlt hn2 hn1
    refine ⟨g', _, ?_, h1⟩
    simp [execOp, hop, hmv, Instr.mapUpdate, run_underlying ht.1, hg, hc, a3.run hd, hej, a2, hst, hs]

theorem mapEntry_ok (hE : EnvOk P E) {t : Nat} {m x : Operand} (hi : Inv E g st w) (hf : FrOk E g fr a.tmps) {k : Ask T} (h : mapEntryA E fr o t m x = some k) (hop : o.op = .mapEntry t m x) :
    SoundAsk P E g st w ((execOp a.eval o).run P w) k := by
  have ht := hE.ty t
  unfold mapEntryA at h
  split at h
  case h_2 => cases h
  rename_i k0 e0 i kv hty hm hx
  rw [hty] at ht
  simp only [Option.some.injEq] at h
  subst h
  intro ob ob' v hob hl
  obtain ⟨r, bs, hM, hmv⟩ := (evalO_ok hf hm).map_inv
  have hok := hi.obs i _ _ hob hM
  unfold entK at hl
  split at hl
  case h_2 => cases hl
  rename_i kt et ents
  split at hl
  case h_2 => cases hl
  rename_i key z hck hkey hz
  simp only [Bool.and_eq_true, decide_eq_true_eq] at hck
  obtain ⟨rfl, rfl⟩ := hck
  split at hl
  case h_2 => cases hl
  rename_i v' hv'
  simp only [Option.some.injEq, Prod.mk.injEq, true_and] at hl
  obtain ⟨rfl, rfl⟩ := hl
  have hxv := evalO_ok hf hx
  obtain ⟨hk, hp, hp', hpl⟩ := keyOf_ok hE hkey hxv
  obtain ⟨es, clock, hh, hen, hlt, hn2, hn1⟩ := hok
  obtain ⟨d, hd⟩ := keyed_desc hE hk
  obtain ⟨inf, zx, vs, z1, z2, _, _, _, _, _, _, z3, z4⟩ := zeroT_ok hE g.G hz
  have hg := run_getObj (P := P) hh (by simp)
  have hc := fun b => run_checkKey (P := P) (w := w) (p := a.eval x) hE b hk hp' hpl
  have hsb := (key_same hE hk hd hp hp' hp hp').2.2.2
  have hkeys := hen.keys
  dsimp only
  rcases hen.find hE hk hd hp hp' 0 with ⟨a1, a2, a3, a4⟩ | ⟨j, e, v, vcs, a1, a2, a3, a4, a5, a6, a7⟩
  · rw [a2] at hv'
    rw [a2, a3]
    have hs := run_setObj (P := P) (ob' := .map (es.push { key := a.eval x, val := zx, born := clock }) (clock + 1)) hh (by simp)
    obtain ⟨g', h1, h2⟩ := map_write (es' := es.push { key := a.eval x, val := zx, born := clock }) (clock' := clock + 1) (ents' := ents ++ [(key, z)]) (bs' := bs ++ [(a.eval x, clock)]) hi hob hM hh
      (by
        rw [Array.toList_push]
        exact Ents.snoc (e := { key := a.eval x, val := zx, born := clock }) hp hp' z3 z4 hen)
      (fun p hp => List.mem_append_left _ hp) (fun p hp => by
        rcases List.mem_append.1 hp with hp | hp
        · have := hlt p hp; omega
        · simp only [List.mem_singleton] at hp; subst hp; simp)
      (by
        rw [List.map_append, List.nodup_append]
        refine ⟨hn2, by simp, ?_⟩
        intro q hq r' hr'
        obtain ⟨p, hp, rfl⟩ := List.mem_map.1 hq
        have := hlt p hp
        simp only [List.map_cons, List.map_nil, List.mem_singleton] at hr'
        omega)
      (by
        rw [List.map_append, List.nodup_append]
        refine ⟨hn1, by simp, ?_⟩
        intro q hq r' hr' he
        simp only [List.map_cons, List.map_nil, List.mem_singleton] at hr'
        subst hr'; subst he
        exact a4 hq)
    refine ⟨g', _, .tuple #[zx, goInt clock], ?_, h1, ?_⟩
    · simp [execOp, hop, hmv, Instr.mapEntry, run_underlying ht.1, hg, hc, a1.run hd, hs, zeroValue, typeInfo, z1, z2]
    · exact .tup (.cons (ofCells_ok hv' (z3.mono h1.le.G) z4) (.cons (.stamp h2 (hxv.mono h1.le) (by simp)) .nil))
  · have hej : es[j]? = some e := by rw [← Array.getElem?_toList]; exact a1
    rw [a4] at hv'
    rw [a4]
    have hs := run_setObj (P := P) (ob' := .map (es.modify j fun e => { e with key := a.eval x }) clock) hh (by simp)
    have hst := keyStays (P := P) (w := w) hsb
    obtain ⟨g', h1, h2⟩ := map_write (es' := es.modify j fun e => { e with key := a.eval x }) (clock' := clock) (ents' := updT kt et E ents key v) (bs' := bs) hi hob hM hh
      (by
        rw [Array.toList_modify]
        exact a7 v _ _ _ a5 a6 rfl rfl rfl)
      (fun p hp => hp) hlt hn2 hn1
    refine ⟨g', _, .tuple #[e.val, goInt e.born], ?_, h1, ?_⟩
    · simp [execOp, hop, hmv, Instr.mapEntry, run_underlying ht.1, hg, hc, a3.run hd, hej, a2, hst, hs]
    · refine .tup (.cons (ofCells_ok hv' (a5.mono h1.le.G) a6) (.cons (.stamp h2 (hxv.mono h1.le) ?_) .nil))
      rw [hkeys, ← a2]
      exact List.mem_map.2 ⟨e, List.mem_of_getElem? a1, rfl⟩

theorem findIdx_born {es : List MapEntry} {j : Nat} {e : MapEntry} (h : es[j]? = some e) (hn : (es.map (·.born)).Nodup) : es.findIdx? (fun e' => (e'.born : Int) == (e.born : Int)) = some j := by
  induction es generalizing j with
  | nil => simp at h
  | cons e' es ih =>
    rw [List.map_cons, List.nodup_cons] at hn
    cases j with
    | zero =>
      simp only [List.getElem?_cons_zero, Option.some.injEq] at h
      subst h
      simp [List.findIdx?_cons]
    | succ j =>
      simp only [List.getElem?_cons_succ] at h
      have hne : ¬ (e'.born = e.born) := fun he => hn.1 (by rw [he]; exact List.mem_map.2 ⟨e, List.mem_of_getElem? h, rfl⟩)
      have := ih h hn.2
      simp only [List.findIdx?_cons, this]
      have hb : ((e'.born : Int) == (e.born : Int)) = false := by
        rw [beq_eq_false_iff_ne]
        omega
      rw [hb]
      simp
theorem entryStore_ok (hE : EnvOk P E) {t : Nat} {m x y : Operand} (hi : Inv E g st w) (hf : FrOk E g fr a.tmps) {k : Ask T} (h : entryStoreA E fr o t m x y = some k) (hop : o.op = .entryStore t m x y) :
    SoundAsk P E g st w ((execOp a.eval o).run P w) k := by
  have ht := hE.ty t
  unfold entryStoreA at h
  split at h
  case h_2 => cases h
  rename_i k0 e0 i j0 kv xv hty hm hx hy
  rw [hty] at ht
  split at h
  case h_2 => cases h
  rename_i hij
  have hij' := Nat.eq_of_beq_eq_true hij
  subst hij'
  simp only [Option.some.injEq] at h
  subst h
  intro ob ob' v hob hl
  obtain ⟨r, bs, hM, hmv⟩ := (evalO_ok hf hm).map_inv
  have hok := hi.obs i _ _ hob hM
  have hsv := evalO_ok hf hx
  obtain ⟨kx, born, hkx, hmem, hsx⟩ : ∃ kx born, Rep E g kv kx ∧ (kx, born) ∈ bs ∧ a.eval x = .int .i64 born := by
    generalize a.eval x = q at hsv
    cases hsv with
    | fc h => cases h
    | stamp h1 h2 h3 =>
      rw [hM] at h1
      cases h1
      exact ⟨_, _, h2, h3, rfl⟩
  unfold updK at hl
  split at hl
  case h_2 => cases hl
  rename_i kt et ents
  split at hl
  case h_2 => cases hl
  rename_i key val hck hkey hval
  simp only [Bool.and_eq_true, decide_eq_true_eq] at hck
  obtain ⟨rfl, rfl⟩ := hck
  simp only [Option.some.injEq, Prod.mk.injEq, true_and] at hl
  obtain ⟨rfl, rfl⟩ := hl
  obtain ⟨hk, hp, hp', hpl⟩ := keyOf_ok hE hkey hkx
  obtain ⟨hv, hv'⟩ := elemOf_ok hE hval ((evalO_ok hf hy).coerce _)
  obtain ⟨es, clock, hh, hen, hlt, hn2, hn1⟩ := hok
  obtain ⟨d, hd⟩ := keyed_desc hE hk
  have hg := run_getObj (P := P) hh (by simp)
  have hkeys := hen.keys
  rcases hen.find hE hk hd hp hp' 0 with ⟨a1, a2, a3, a4⟩ | ⟨j, e, v, vcs, a1, a2, a3, a4, a5, a6, a7⟩
  · exact absurd (List.mem_map.2 ⟨_, hmem, rfl⟩) a4
  · have hborn : e.born = born := by
      have h1 : (e.key, e.born) ∈ bs := by rw [hkeys]; exact List.mem_map.2 ⟨e, List.mem_of_getElem? a1, rfl⟩
      rw [a2] at h1
      have inj : ∀ (l : List (Value × Nat)), (l.map (·.1)).Nodup → ∀ {k : Value} {x y : Nat}, (k, x) ∈ l → (k, y) ∈ l → x = y := by
        intro l
        induction l with
        | nil => intro _ _ _ _ h; cases h
        | cons q l ih =>
          intro hn k x y hx hy
          rw [List.map_cons, List.nodup_cons] at hn
          rcases List.mem_cons.1 hx with hx2 | hx2 <;> rcases List.mem_cons.1 hy with hy2 | hy2
          · rw [← hx2] at hy2; cases hy2; rfl
          · subst hx2; exact absurd (show k ∈ l.map (·.1) from List.mem_map.2 ⟨(k, y), hy2, rfl⟩) hn.1
          · subst hy2; exact absurd (show k ∈ l.map (·.1) from List.mem_map.2 ⟨(k, x), hx2, rfl⟩) hn.1
          · exact ih hn.2 hx2 hy2
      exact inj bs hn1 h1 hmem
    have hs := run_setObj (P := P) (ob' := .map (es.modify j fun e => { e with val := a.eval y }) clock) hh (by simp)
    have hfi : es.findIdx? (fun e' => (e'.born : Int) == (born : Int)) = some j := by
      have := findIdx_born a1 (by rw [hkeys, List.map_map] at hn2; exact hn2)
      rw [hborn] at this
      have h2 := List.findIdx?_toArray (p := fun e' : MapEntry => (e'.born : Int) == (born : Int)) (l := es.toList)
      rw [this] at h2
      simpa using h2
    obtain ⟨g', h1, _⟩ := map_write (es' := es.modify j fun e => { e with val := a.eval y }) (clock' := clock) (ents' := updT kt et E ents key val) (bs' := bs) hi hob hM hh
      (by
        rw [Array.toList_modify]
        exact a7 val _ _ _ hv hv' a2 rfl rfl)
      (fun p hp => hp) hlt hn2 hn1
    refine ⟨g', _, ?_, h1⟩
    simp [execOp, hop, hmv, Instr.entryStore, hg, hsx, asInt, asIntOf, hfi, hs]
end
end Go.Proofs.YtnenfgpjedddoaaGreat.AI
