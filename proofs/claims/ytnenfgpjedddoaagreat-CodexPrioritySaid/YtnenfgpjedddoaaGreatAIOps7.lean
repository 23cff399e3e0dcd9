/- Each operation does what the abstract interpreter says: calls of functions, lengths, the greatest and the least; stores, new variables. -/
import Derived.Test.YtnenfgpjedddoaaGreatAIOps6
set_option linter.unusedVariables false
set_option linter.unusedSectionVars false
set_option linter.unusedSimpArgs false
namespace Go.Proofs.YtnenfgpjedddoaaGreat.AI
open Go

variable {K : Type} [DecidableEq K] {T : K → Type} {E : Env T} {P : Program}
section
variable {g : Gh} {st : List (Ob T)} {w : World} {fr : Fr T} {a : Act} (o : Oper)

theorem argsV_ok (hf : FrOk E g fr a.tmps) : ∀ (l : List Operand) (ts : List Nat) (vs : List (V T)), argsV E fr l ts = some vs → Reps E g vs (l.map a.eval) := by
  intro l
  induction l with
  | nil => intro ts vs h; simp only [argsV, Option.some.injEq] at h; subst h; exact .nil
  | cons x l ih =>
    intro ts vs h
    cases ts with
    | nil =>
      simp only [argsV] at h
      split at h
      · rename_i v vs' h1 h2
        simp only [Option.some.injEq] at h
        subst h
        exact .cons (evalO_ok hf h1) (ih _ _ h2)
      · cases h
    | cons t ts =>
      simp only [argsV] at h
      split at h
      · rename_i v vs' h1 h2
        simp only [Option.some.injEq] at h
        subst h
        exact .cons ((evalO_ok hf h1).coerce t) (ih _ _ h2)
      · cases h

theorem call_run {c : Call} {f : Nat} {as cs : List Value} (hop : o.op = .call c) {x : Operand} (hc : c.callee = .value x) (hx : a.eval x = .func (.func f) ⟨as⟩ ⟨cs⟩)
    {fn : Func} (hfn : P.funcs[f]? = some fn) (hb : fn.body.isSome = true) (hn : fn.name ≠ "runtime.NumGoroutine") :
    (execOp a.eval o).run P w = .ok (.enter f ⟨as ++ c.args.toList.map a.eval ++ cs⟩) w := by
  have hne : (fn.name == "runtime.NumGoroutine") = false := by simpa using hn
  have hbn : fn.body.isNone = false := by cases hbb : fn.body <;> simp_all
  have hcf : ∀ args : Array Value, (callFunc f args).run P w = .ok (.enter f args) w := fun args => by
    simp [callFunc, hfn]
    rw [if_neg hn, if_neg (by intro e; rw [e] at hb; cases hb)]
  have : (⟨as⟩ : Array Value) ++ c.args.map a.eval ++ ⟨cs⟩ = ⟨as ++ c.args.toList.map a.eval ++ cs⟩ := by
    apply Array.ext'
    simp
  simp [execOp, hop, resolve, hc, hx, Deferred.ofValue, invoke, hcf]

theorem len_ok {t ty : Nat} {x : V T} {p : Value} (ht : TyOk P E t (E.ty t)) (hi : Inv E g st w) (hx : Rep E g x p) {k : Ask T} (h : lenV (E.ty t) x = some k)
    {r : Result Next} (hr : ∀ v w', (Builtin.len_ #[t] ty #[p]).run P w = .ok v w' → r = .ok (.value v) w') : SoundAsk P E g st w r k := by
  have fin : ∀ {n : Int}, (Builtin.len_ #[t] ty #[p]).run P w = .ok (.int .i64 n) w → Gives E g w r st (.int .i64 n) := fun h => .here hi (hr _ _ h) (.int _ _ _)
  unfold lenV at h
  split at h
  · rename_i s hty
    rw [hty] at ht
    simp only [Option.some.injEq] at h
    subst h
    refine fin ?_
    rw [hx.str_inv]
    have hsz : (⟨⟨s⟩⟩ : ByteArray).size = s.length := rfl
    simp [Builtin.len_, run_underlying ht.1, goInt, hsz]
  · rename_i e0 e xs ow hty
    rw [hty] at ht
    simp only [Option.some.injEq] at h
    subst h
    refine fin ?_
    obtain ⟨ad, cap, _, h2⟩ := hx.sl_inv
    rw [h2]
    simp [Builtin.len_, run_underlying ht.1, goInt]
  · rename_i e0 i hty
    rw [hty] at ht
    simp only [Option.some.injEq] at h
    subst h
    intro ob v hob hk
    obtain ⟨b, n, sz, h1, h2⟩ := hx.asl_inv
    have hok := hi.obs i _ _ hob h1
    have main : ∀ (xn : Nat), n = xn → v = .int .i64 xn → Gives E g w r st v := fun xn hn hv => by
      subst hn; subst hv
      refine fin ?_
      rw [h2]
      simp [Builtin.len_, run_underlying ht.1, goInt]
    unfold lenArr at hk
    split at hk
    · simp only [Option.some.injEq, Prod.mk.injEq, true_and] at hk
      exact main _ hok.1 hk.symm
    · simp only [Option.some.injEq, Prod.mk.injEq, true_and] at hk
      exact main _ hok.1 hk.symm
    · cases hk
  · rename_i k0 e0 i hty
    rw [hty] at ht
    simp only [Option.some.injEq] at h
    subst h
    intro ob v hob hk
    obtain ⟨m, bs, h1, h2⟩ := hx.map_inv
    have hok := hi.obs i _ _ hob h1
    unfold lenMap at hk
    split at hk
    · rename_i kt et ents
      simp only [Option.some.injEq, Prod.mk.injEq, true_and] at hk
      subst hk
      obtain ⟨es, clock, h3, h4, _⟩ := hok
      have hlen : ∀ {ps : List (T kt × T et)} {es : List MapEntry} {bs : List (Value × Nat)}, Ents E g kt et ps es bs → ps.length = es.length := fun h => by
        induction h with
        | nil => rfl
        | cons _ _ _ _ _ ih => simp [ih]
      refine fin ?_
      rw [h2, hlen h4]
      have hg : (getObj m).run P w = .ok (.map es clock) w := by simp [getObj, Sem.run, h3]
      simp [Builtin.len_, run_underlying ht.1, hg, goInt]
    · cases hk
  · rename_i k0 e0 hty
    rw [hty] at ht
    simp only [Option.some.injEq] at h
    subst h
    refine fin ?_
    rw [hx.nmp_inv]
    simp [Builtin.len_, run_underlying ht.1, goInt]
  · cases h

theorem fold_max {f : V T → V T → Option (V T)} {m : Value → Value → Sem Value} (hm : ∀ {x y z : V T} {p q : Value}, Rep E g x p → Rep E g y q → f x y = some z → ∃ r, (m p q).run P w = .ok r w ∧ Rep E g z r) :
    ∀ (ys : List (V T)) (qs : List Value) (x z : V T) (p : Value), Rep E g x p → Reps E g ys qs → foldV f x ys = some z → ∃ r, (qs.foldlM m p).run P w = .ok r w ∧ Rep E g z r := by
  intro ys
  induction ys with
  | nil =>
    intro qs x z p hx hy h
    cases hy
    simp only [foldV, Option.some.injEq] at h
    subst h
    exact ⟨p, rfl, hx⟩
  | cons y ys ih =>
    intro qs x z p hx hy h
    cases hy with
    | cons hy1 hy2 =>
      simp only [foldV] at h
      split at h
      · rename_i u hu
        obtain ⟨r, h1, h2⟩ := hm hx hy1 hu
        obtain ⟨r', h3, h4⟩ := ih _ _ _ _ h2 hy2 h
        exact ⟨r', by simp [List.foldlM_cons, h1, h3], h4⟩
      · cases h
theorem max2_ok {x y z : V T} {p q : Value} (hx : Rep E g x p) (hy : Rep E g y q) (h : max2 x y = some z) : ∃ r, (Builtin.max2 p q).run P w = .ok r w ∧ Rep E g z r := by
  unfold max2 at h
  split at h
  · simp only [Option.some.injEq] at h
    subst h
    rw [hx.int_inv, hy.int_inv]
    exact ⟨_, rfl, .int _ _ _⟩
  · cases h
theorem min2_ok {x y z : V T} {p q : Value} (hx : Rep E g x p) (hy : Rep E g y q) (h : min2 x y = some z) : ∃ r, (Builtin.min2 p q).run P w = .ok r w ∧ Rep E g z r := by
  unfold min2 at h
  split at h
  · simp only [Option.some.injEq] at h
    subst h
    rw [hx.int_inv, hy.int_inv]
    exact ⟨_, rfl, .int _ _ _⟩
  · cases h

/-! ### Stores -/
theorem splice_spec {cs us cs' : List (V T)} {off : Nat} (h : splice cs off us = some cs') : off + us.length ≤ cs.length ∧ cs' = cs.take off ++ us ++ cs.drop (off + us.length) := by
  unfold splice at h
  split at h
  · rename_i hb
    simp only [Option.some.injEq] at h
    exact ⟨Nat.le_of_ble_eq_true hb, h.symm⟩
  · cases h
theorem Reps.spliced {cs us : List (V T)} {vs xs : List Value} {off : Nat} (h : Reps E g cs vs) (k : Reps E g us xs) : Reps E g (cs.take off ++ us ++ cs.drop (off + us.length)) (spliced vs off xs) := by
  unfold AI.spliced
  rw [← k.length]
  exact ((h.take off).append k).append (h.drop _)
/-- The cells of a block that is not frozen are written. -/
theorem storeAt_ok {t b off : Nat} {v : Value} {vs : List Value} {bt : TypeId} (hs : Sized P E t) (hv : v.cells.size = E.size t) (h1 : One v.cells.toList) (hb : w.heap[b]? = some (.cells ⟨vs⟩ bt (0, 0)))
    (hl : off + v.cells.size ≤ vs.length) : (Instr.storeAt t (.pointer (some ⟨b, off, none⟩)) v).run P w = .ok () (w.setCells b off v.cells.toList) := by
  obtain ⟨i, hi, his⟩ := hs
  have hc : ∀ j, j < v.cells.toList.length → (w.cell? ⟨b, off + 0 + j, none⟩).isSome = true := fun j hj => by
    rw [cell?_cells hb]
    have : off + j < vs.length := by rw [Array.length_toList] at hj; omega
    simp [this]
  have hf : ∀ j, j < v.cells.toList.length → w.frozen? ⟨b, off + 0 + j, none⟩ = false := fun j hj => by
    simp [World.frozen?, hb]
  have := run_storeCells_cells (P := P) b off v.cells.toList 0 w hc hf h1
  simp [Instr.storeAt, Instr.sureAddr, storeVar, run_sizeOf' hi, his, hv, this]

theorem set_same {α : Type} {M : List α} {i : Nat} {l : α} (h : M[i]? = some l) : M.set i l = M := by
  apply List.ext_getElem?
  intro j
  rw [List.getElem?_set]
  split
  · rename_i hij
    subst hij
    obtain ⟨h1, h2⟩ := List.getElem?_eq_some_iff.1 h
    simp [h1, h2]
  · rfl
theorem spliced_get {c us : List Value} {off : Nat} (h : off + us.length ≤ c.length) (k : Nat) :
    (AI.spliced c off us)[k]? = if off ≤ k ∧ k < off + us.length then us[k - off]? else c[k]? := by
  unfold AI.spliced
  rw [List.getElem?_append, List.getElem?_append]
  simp only [List.length_append, List.length_take, Nat.min_eq_left (show off ≤ c.length by omega)]
  by_cases h1 : k < off
  · rw [if_pos (by omega), if_pos h1, if_neg (by omega), List.getElem?_take, if_pos h1]
  · by_cases h2 : k < off + us.length
    · rw [if_pos h2, if_neg h1, if_pos (by omega)]
    · rw [if_neg h2, if_neg (by omega), List.getElem?_drop]
      congr 1
      omega
theorem spliced_in {c us : List Value} {p off n : Nat} (h : off + us.length ≤ n) (hn : p + n ≤ c.length) : ((AI.spliced c (p + off) us).drop p).take n = AI.spliced ((c.drop p).take n) off us := by
  apply List.ext_getElem?
  intro k
  have hl : ((c.drop p).take n).length = n := by simp; omega
  rw [spliced_get (by omega), List.getElem?_take, List.getElem?_take, List.getElem?_drop, List.getElem?_drop, spliced_get (by omega)]
  by_cases h1 : k < n
  · rw [if_pos h1, if_pos h1]
    by_cases h2 : off ≤ k ∧ k < off + us.length
    · rw [if_pos (by omega), if_pos h2]
      congr 1
      omega
    · rw [if_neg (by omega), if_neg h2]
  · rw [if_neg h1, if_neg (by omega), if_neg h1]
theorem spliced_out {c us : List Value} {p off n : Nat} (h : off + us.length ≤ c.length) (hd : p + n ≤ off ∨ off + us.length ≤ p) : ((AI.spliced c off us).drop p).take n = (c.drop p).take n := by
  apply List.ext_getElem?
  intro k
  rw [List.getElem?_take, List.getElem?_take, List.getElem?_drop, List.getElem?_drop, spliced_get h]
  by_cases h1 : k < n
  · rw [if_pos h1, if_pos h1, if_neg (by omega)]
  · rw [if_neg h1, if_neg h1]
theorem spliced_one {vs us : List Value} {off : Nat} (h : One vs) (k : One us) : One (AI.spliced vs off us) := ((h.take _).append k).append (h.drop _)
/-- An object is written to, where it lies. -/
theorem Inv.write (hi : Inv E g st w) {w' : World} {i : Nat} {ob ob' : Ob T} {l : Loc} (h1 : st[i]? = some ob) (h2 : g.M[i]? = some l) (hok : ObOk E g w' ob' l)
    (hkeep : ∀ b, l.block ≠ some b → w'.heap[b]? = w.heap[b]?) (hfro : ∀ b off v, g.G b off = some v → l.block = some b → w'.cell? ⟨b, off, none⟩ = some v)
    (hos : w'.os = w.os) (htape : w'.tape = w.tape) (hout : w'.output = w.output) (hsize : w'.heap.size = w.heap.size) : To E g w g (st.set i ob') w' := by
  have hset := set_same h2
  have := hi.step (w' := w') (ob' := ob') (l' := l) (G' := g.G) h1 h2 (.refl _) (.refl _) (fun b off v hv => by
      by_cases hb : l.block = some b
      · exact hfro b off v hv hb
      · rw [cell?_block (hkeep b hb)]; exact hi.froz b off v hv)
    hos htape hout (by omega) (fun b _ hne => ⟨hkeep b hne, fun _ => rfl⟩) (fun b hb => .inl hb) (by rw [hset]; exact hok)
  rw [hset] at this
  exact ⟨this.2.2, this.1, this.2.1⟩
theorem store_ok (hE : EnvOk P E) {t : Nat} {x y : Operand} (hi : Inv E g st w) (hf : FrOk E g fr a.tmps) {k : Ask T} (h : storeA E fr o t x y = some k) (hop : o.op = .store t x y) :
    SoundAsk P E g st w ((execOp a.eval o).run P w) k := by
  unfold storeA at h
  split at h
  case h_2 => cases h
  rename_i av xv hx hy
  have hav := evalO_ok hf hx
  have hxv := (evalO_ok hf hy).coerce (E := E) t
  generalize hu : coerce E t xv = u at h hxv
  unfold storeV at h
  split at h
  · cases h
  rename_i hck
  simp only [Bool.and_eq_true] at hck
  obtain ⟨⟨hlv, hlen⟩, hkn⟩ := hck
  have hlen' : u.cells.length = E.size t := Nat.eq_of_beq_eq_true hlen
  have hcells := hxv.cells
  have hone := hcells.one hlv
  have hsz : (a.eval y).cells.size = E.size t := by rw [← hlen', hcells.length, Array.length_toList]
  have hSized : Sized P E t := by
    have ht := hE.ty t
    cases hty : E.ty t <;> rw [hty] at ht hkn <;> first | exact ht.2.1 | (cases hkn; done)
  have run : ∀ {b off : Nat} {vs : List Value} {bt : TypeId}, a.eval x = .pointer (some ⟨b, off, none⟩) → w.heap[b]? = some (.cells ⟨vs⟩ bt (0, 0)) → off + (a.eval y).cells.size ≤ vs.length →
      (execOp a.eval o).run P w = .ok .skip (w.setCells b off (a.eval y).cells.toList) := fun h1 h2 h3 => by
    have := storeAt_ok (P := P) hSized hsz hone h2 h3
    simp [execOp, hop, h1, this]
  split at h
  · rename_i i off
    simp only [Option.some.injEq] at h
    subst h
    intro ob ob' v hob hk
    obtain ⟨b, hM, h2⟩ := hav.ptr_inv
    have hok := hi.obs i _ _ hob hM
    unfold storeBox at hk
    split at hk
    · rename_i bt cs
      split at hk
      · rename_i cs' hsp
        simp only [Option.some.injEq, Prod.mk.injEq, true_and] at hk
        obtain ⟨rfl, rfl⟩ := hk
        obtain ⟨hl, rfl⟩ := splice_spec hsp
        obtain ⟨vs, h3, h4, h5, h6⟩ := hok
        have hl4 := h4.length
        have hl5 := hcells.length
        rw [Array.length_toList] at hl5
        have hb' := setCells_heap (a.eval y).cells.toList vs off w h3 (by rw [Array.length_toList]; omega)
        obtain ⟨e1, e2, e3, e4⟩ := setCells_rest (b := b) (a.eval y).cells.toList off w
        have hok' : ObOk E g (w.setCells b off (a.eval y).cells.toList) (.box bt (cs.take off ++ u.cells ++ cs.drop (off + u.cells.length))) (.box b) :=
          ⟨_, hb', h4.spliced hcells, spliced_one h5 hone, h6⟩
        have hstep := hi.write hob hM hok' (fun b' hne => setCells_other (fun e => hne (by rw [e]; rfl)) _ _ _) (fun b' off' v' hv' hbl => by
          simp only [Loc.block, Option.some.injEq] at hbl
          subst hbl
          rw [h6] at hv'; cases hv') e1 e2 e3 e4
        exact ⟨_, _, run h2 h3 (by omega), hstep⟩
      · cases hk
    · cases hk
  · rename_i i j off
    simp only [Option.some.injEq] at h
    subst h
    intro ob ob' v hob hk
    obtain ⟨b, n, sz, hM, hj, h2⟩ := hav.elt_inv
    have hok := hi.obs i _ _ hob hM
    unfold storeElt at hk
    split at hk
    · rename_i e xs
      split at hk
      · rename_i cs' hsp
        split at hk
        · rename_i z hz
          simp only [Option.some.injEq, Prod.mk.injEq, true_and] at hk
          obtain ⟨rfl, rfl⟩ := hk
          obtain ⟨hl, rfl⟩ := splice_spec hsp
          obtain ⟨h7, h8, h9, vs, h10, h11, h12⟩ := hok
          subst h7; subst h8
          have hx : xs[j]? = some (xs.getD j (E.dflt e)) := by simp [List.getD, hj]
          have hel := h12 j _ hx
          have hen := hE.encLen e (xs.getD j (E.dflt e))
          have hl5 := hcells.length
          rw [Array.length_toList] at hl5
          rw [hen] at hl
          have hmul : j * E.size (E.num e) + E.size (E.num e) ≤ xs.length * E.size (E.num e) := by
            have := Nat.mul_le_mul_right (E.size (E.num e)) (show j + 1 ≤ xs.length by omega)
            rwa [Nat.add_mul, Nat.one_mul] at this
          have hb' := setCells_heap (a.eval y).cells.toList vs (j * E.size (E.num e) + off) w h10 (by rw [Array.length_toList]; omega)
          obtain ⟨e1, e2, e3, e4⟩ := setCells_rest (b := b) (a.eval y).cells.toList (j * E.size (E.num e) + off) w
          have hok' : ObOk E g (w.setCells b (j * E.size (E.num e) + off) (a.eval y).cells.toList) (.arr e (xs.set j z)) (.arr b xs.length (E.size (E.num e))) := by
            refine ⟨by simp, rfl, h9, _, hb', ?_, fun m x hm => ?_⟩
            · rw [spliced_length (by rw [Array.length_toList]; omega)]
              exact h11
            · have hlu : (a.eval y).cells.toList.length = u.cells.length := by rw [Array.length_toList]; omega
              rw [List.getElem?_set] at hm
              split at hm
              · rename_i hjm
                subst hjm
                have hzx : z = x := by simpa [hj] using hm
                subst hzx
                rw [spliced_in (by omega) (by omega)]
                exact hE.dec g e _ _ _ hz ((Fcs.reps hel).spliced hcells)
              · rename_i hjm
                have hml : m < xs.length := (List.getElem?_eq_some_iff.1 hm).1
                rw [spliced_out (by omega)]
                · exact h12 m x hm
                · rcases Nat.lt_or_gt_of_ne hjm with hlt | hgt
                  · right
                    have := Nat.mul_le_mul_right (E.size (E.num e)) (show j + 1 ≤ m by omega)
                    rw [Nat.add_mul, Nat.one_mul] at this
                    omega
                  · left
                    have := Nat.mul_le_mul_right (E.size (E.num e)) (show m + 1 ≤ j by omega)
                    rw [Nat.add_mul, Nat.one_mul] at this
                    omega
          have hstep := hi.write hob hM hok' (fun b' hne => setCells_other (fun e => hne (by rw [e]; rfl)) _ _ _) (fun b' off' v' hv' hbl => by
            simp only [Loc.block, Option.some.injEq] at hbl
            subst hbl
            rw [h9] at hv'; cases hv') e1 e2 e3 e4
          exact ⟨_, _, run h2 h10 (by omega), hstep⟩
        · cases hk
      · cases hk
    · cases hk
  · cases h
end
end Go.Proofs.YtnenfgpjedddoaaGreat.AI
