/- The abstract interpreter is right: whole runs. -/
import Derived.Test.YtnenfgpjedddoaaGreatAIRounds
set_option linter.unusedVariables false
set_option linter.unusedSectionVars false
set_option linter.unusedSimpArgs false
namespace Go.Proofs.YtnenfgpjedddoaaGreat.AI
open Go

variable {K : Type} [DecidableEq K] {T : K → Type} {E : Env T} {P : Program}
theorem code_good (hE : EnvOk P E) {c : Cfg T} {v : V T} {st' : List (Ob T)} {k : List (Item T)} {a : Code} (hc : c.todo = .code a :: k) (hG : NxGood P E v st' (stepCode E c k a)) : Sound P E c v st' := by
  intro Z g w tmps todo hS
  have htop := hS.top
  cases htop with
  | on hc' => rw [hc] at hc'; cases hc'
  | items hi =>
    rw [hc] at hi
    generalize hz : Z.kind = z at hi
    have hret : a = .ret → zoneOf k = z.zk → (∀ cs, Z.b.roundOf = none → Steps P (Z.at tmps todo w cs) (lone { Z.b.atR ⟨tmps, Z.ds⟩ todo with mode := .returning } (Z.above ++ cs) w)) → 
        (∀ (l : Nat) (v : Value) (w' : World) (f : Frame) (cs : List Frame), Z.b.roundOf = some l → Z.b.kind = .normal → (Instr.endRound l (some .ret)).run P w = .ok v w' → Go.step P (lone (Z.b.atR ⟨tmps, Z.ds⟩ todo) (f :: cs) w) = .next (lone (f.finish v) cs w')) → Ends P E (Z.at tmps todo w) c.fn c.keep Z.g0 Z.w0 v st' := fun ha hzk hs hs2 => by
      subst ha
      simp only [stepCode, stepReturn] at hG
      rw [hzk] at hG
      cases z with
      | top => exact ret_good hE hz hS hG hs
      | pre => exact hG.elim
      | rnd r fr0 i kF => exact jump_good hE hz hS hG hs2
    cases hi with
    | bot => exact hret rfl rfl (fun cs hr => .one (stepR_end hr)) (fun l v w' f cs hl => by
        have hzo := hS.zone
        unfold Zone.Ok at hzo
        rw [hz] at hzo
        obtain ⟨rs, z1, _⟩ := hzo
        rw [z1] at hl
        cases hl)
    | @code _ _ _ k' hk =>
      cases a with
      | ret => exact hret rfl hk.zone (fun cs hr => .one (stepR_ret hr)) (fun l v w' f cs hl hn he => stepR_round_ret hl hn he)
      | skip => exact quiet (c1 := { c with todo := k }) hS hG (fun cs => .one stepR_skip) rfl rfl rfl rfl rfl rfl (by rw [hz]; exact hk)
      | seq x y => exact quiet (c1 := { c with todo := .code x :: .code y :: k }) hS hG (fun cs => .one stepR_seq) rfl rfl rfl rfl rfl rfl (by rw [hz]; exact .code (.code hk))
      | cond x y u =>
        simp only [stepCode, stepCond] at hG
        split at hG
        · rename_i t ht
          have hx := evalO_ok (a := ⟨tmps, Z.ds⟩) hS.fr ht
          have hb := hx.bool_inv
          cases t with
          | true => exact quiet hS (hG.1 rfl) (fun cs => .one (stepR_cond (t := true) hb)) rfl rfl rfl rfl rfl rfl (by rw [hz]; exact .code hk)
          | false => exact quiet hS (hG.2 rfl) (fun cs => .one (stepR_cond (t := false) hb)) rfl rfl rfl rfl rfl rfl (by rw [hz]; exact .code hk)
        · exact hG.elim
      | block id body => exact quiet (c1 := { c with todo := .code body :: .inBlock id :: k }) hS hG (fun cs => .one stepR_block) rfl rfl rfl rfl rfl rfl (by rw [hz]; exact .code (.inBlock hk))
      | loop body => exact quiet (c1 := { c with todo := .code body :: .inLoop body (match E.cuts c.fn with | true => none | false => some (slotsOf [] c.fr)) :: k }) hS hG (fun cs => .one stepR_loop) rfl rfl rfl rfl rfl rfl (by rw [hz]; exact .code (.inLoop hk))
      | exit id =>
        simp only [stepCode, stepExit] at hG
        split at hG
        · rename_i r hr
          obtain ⟨r', h1, h2⟩ := hk.exitTo hr
          exact quiet hS hG (fun cs => .one (stepR_exit h1)) rfl rfl rfl rfl rfl rfl (by rw [hz]; exact h2)
        · rename_i hr
          rw [hk.zone] at hG
          cases z with
          | top => exact hG.elim
          | pre => exact hG.elim
          | rnd r fr0 i kF => exact jump_good hE hz hS hG (fun l v w' f cs hl hn he => stepR_round_exit hl hn (hk.exitOut hr) he)
      | region id ops draw =>
        simp only [stepCode, stepRegion] at hG
        split at hG
        · rename_i hzk
          have hzt := hk.top hzk
          rw [hzt] at hz
          split at hG
          · rename_i live _
            split at hG
            · rename_i c1 hn
              obtain ⟨g1, n1, n2, n3, n4, n5, n6, n7, n8⟩ := norm_ok hS hn
              exact onward (c1 := { c1 with todo := .reg id ops draw :: k }) hz hS hG (fun cs => .refl _ _) n1 n2 n3 n4 n5 n6 n7 n8 (by rw [hz, ← hzt]; exact .reg hk)
            · exact hG.elim
          · exact region_good hE (fun _ => hz) hS (by rw [hz, ← hzt]; exact hk) hG
        · cases draw with
          | false => exact region_good hE (fun h => by cases h) hS (by rw [hz]; exact hk) hG
          | true => exact hG.elim
      | rangeFunc f params assign body => exact range_good hE hS (by rw [hz]; exact hk) hG
      | _ => exact hG.elim

theorem ops_good (hE : EnvOk P E) {c : Cfg T} {v : V T} {st' : List (Ob T)} {k : List (Item T)} {all : Array Oper} {rest : List Oper} (hc : c.todo = .ops all rest :: k) (hG : NxGood P E v st' (stepOps E c k all rest)) : Sound P E c v st' := by
  intro Z g w tmps todo hS
  have htop := hS.top
  cases htop with
  | on hc' => rw [hc] at hc'; cases hc'
  | items hi =>
    rw [hc] at hi
    generalize hz : Z.kind = z at hi
    cases hi with
    | @ops _ _ _ _ k' i hd hk =>
      subst hz
      cases rest with
      | nil =>
        have : all.size ≤ i := by
          have := List.drop_eq_nil_iff.1 hd
          simpa using this
        rw [show all.size - i = 0 by omega]
        refine quiet (g := g) (c1 := { c with todo := k }) (hS := ?_) hG (fun cs => .one stepR_region_end) rfl rfl rfl rfl rfl rfl hk
        rw [show all.size - i = 0 by omega] at hS
        exact hS
      | cons o rest =>
        have hil : i < all.size := by
          refine Nat.lt_of_not_le fun hle => ?_
          rw [List.drop_eq_nil_of_le (by simpa using hle)] at hd
          cases hd
        have hio : all[i]? = some o := by
          have : (all.toList.drop i)[0]? = some o := by rw [hd]; rfl
          rw [List.getElem?_drop] at this
          simpa using this
        have hrest : all.toList.drop (i + 1) = rest := by
          rw [← List.tail_drop, hd]
          rfl
        have hrange : List.range' i (all.size - i) = i :: List.range' (i + 1) (all.size - (i + 1)) := by
          rw [show all.size - i = (all.size - (i + 1)) + 1 by omega, List.range'_succ]
        rw [hrange] at hS ⊢
        simp only [stepOps] at hG
        split at hG
        · exact hG.elim
        rename_i hdst
        -- an operation that is not wanted
        have skip : ∀ {fr1 : Fr T}, FrOk E g fr1 tmps → GNo all o c.fr → Good P E { c with todo := .ops all rest :: k, fr := fr1.drop o.dst } v st' → Ends P E (Z.at tmps (.inRegion all (i :: List.range' (i + 1) (all.size - (i + 1))) :: k') w) c.fn c.keep Z.g0 Z.w0 v st' := fun {fr1} hf1 hn hg => by
          have hw := GNo.wanted (all := all) (o := o) hS.fr hn
          have hitems : ItemsOk Z.kind (.ops all rest :: k) (.inRegion all (List.range' (i + 1) (all.size - (i + 1))) :: k') := .ops hrest hk
          have hfr : FrOk E g (fr1.drop o.dst) ((⟨tmps, Z.ds⟩ : Act).put o.dst undef).tmps := FrOk.putO (a := ⟨tmps, Z.ds⟩) (v := none) hf1 rfl hdst hS.size
          have hact : (⟨tmps, Z.ds⟩ : Act).put o.dst undef = ⟨((⟨tmps, Z.ds⟩ : Act).put o.dst undef).tmps, Z.ds⟩ := by
            cases hdd : o.dst <;> rfl
          refine Ends.next (fun cs => ?_) rfl rfl (hg.sound ⟨_, _, hitems⟩ _ _ _ _ _ (hS.to (c1 := { c with todo := .ops all rest :: k, fr := fr1.drop o.dst }) (tmps1 := ((⟨tmps, Z.ds⟩ : Act).put o.dst undef).tmps) (.refl _ _) (.refl _) hS.inv hfr (put_size ⟨tmps, Z.ds⟩ _ _) rfl rfl rfl rfl (.items hitems)))
          unfold Zone.at
          rw [← hact]
          have hs := stepR_op_skip (P := P) (b := Z.b) (a := ⟨tmps, Z.ds⟩) (k := k') (cs := Z.above ++ cs) (w := w) (ops := all) (i := i) (rest := List.range' (i + 1) (all.size - (i + 1))) (by simp [hio, hw])
          simp only [hio, Option.bind_some] at hs
          exact .one hs
        split at hG
        · rename_i hg
          exact perform_good hE hS hio hrest hdst (.inl hg) hk (GYes.wanted hS.fr (.inl hg)) hG
        · rename_i j want hg
          unfold stepGuard at hG
          split at hG
          · exact hG.elim
          · rename_i d hdd
            split at hG
            · rename_i t ht
              cases hb : (match want with | true => t | false => !t) with
              | true =>
                have htw : t = want := by cases want <;> cases t <;> simp_all
                subst htw
                have hgood := hG.1 hb
                have hsound := hgood.on rfl
                have hy : GYes all o (c.fr.put (some d) (.bool t)) := .inr ⟨j, t, d, hg, hdd, get_put_self _ _ _⟩
                exact Ends.next (fun cs => .refl _ _) rfl rfl (hsound _ _ _ _ _ (hS.to (c1 := { c with todo := .on all o rest :: k, fr := c.fr.put (some d) (.bool t) }) (.refl _ _) (.refl _) hS.inv (hS.fr.known ht) rfl rfl rfl rfl rfl (.on rfl hio hrest hdst hy hk)))
              | false =>
                have htw : t = !want := by cases want <;> cases t <;> simp_all
                subst htw
                exact skip (hS.fr.known ht) ⟨j, want, d, hg, hdd, .inl ht⟩ (hG.2 hb)
            · rename_i ht
              exact skip hS.fr ⟨j, want, d, hg, hdd, .inr ht⟩ hG
            · exact hG.elim

/-- What a step leads to makes the step good. -/
theorem step_good (hE : EnvOk P E) {c : Cfg T} {v : V T} {st' : List (Ob T)} (hG : NxGood P E v st' (step E c)) : Good P E c v st' := by
  unfold Good
  unfold step at hG
  cases hc : c.todo with
  | nil => rw [hc] at hG; exact hG.elim
  | cons x k =>
    rw [hc] at hG
    cases x with
    | code a => exact code_good hE hc hG
    | reg id ops draw =>
      intro Z g w tmps todo hS
      have htop := hS.top
      cases htop with
      | on hc' => rw [hc] at hc'; cases hc'
      | items hi =>
        rw [hc] at hi
        generalize hz : Z.kind = z at hi
        cases hi with
        | reg hk =>
          simp only [stepItem] at hG
          split at hG
          · rename_i hzk
            have hzt := hk.top hzk
            subst hzt
            exact region_good hE (fun _ => hz) hS (by rw [hz]; exact hk) hG
          · exact hG.elim
    | inBlock id =>
      intro Z g w tmps todo hS
      have htop := hS.top
      cases htop with
      | on hc' => rw [hc] at hc'; cases hc'
      | items hi =>
        rw [hc] at hi
        generalize hz : Z.kind = z at hi
        cases hi with
        | inBlock hk => exact quiet (c1 := { c with todo := k }) hS hG (fun cs => .one stepR_inBlock) rfl rfl rfl rfl rfl rfl (by rw [hz]; exact hk)
    | inLoop body slots =>
      intro Z g w tmps todo hS
      have htop := hS.top
      cases htop with
      | on hc' => rw [hc] at hc'; cases hc'
      | items hi =>
        rw [hc] at hi
        generalize hz : Z.kind = z at hi
        cases hi with
        | inLoop hk =>
          have hk2 := ItemsOk.code (c := body) (ItemsOk.inLoop (body := body) (slots := slots) hk)
          rw [← hz] at hk2
          cases slots with
          | none => exact quiet (c1 := { c with todo := .code body :: .inLoop body none :: k }) hS hG (fun cs => .one stepR_inLoop) rfl rfl rfl rfl rfl rfl hk2
          | some slots =>
            have pr : Good P E { c with todo := .code body :: .inLoop body (some slots) :: k, fr := prune c.fr slots } v st' → Ends P E (Z.at tmps _ w) c.fn c.keep Z.g0 Z.w0 v st' := fun h =>
              AI.slots hS h (fun cs => .one stepR_inLoop) rfl (prune_ok hS.fr slots) rfl rfl rfl rfl hk2
            simp only [stepItem, stepLoop] at hG
            split at hG
            · exact pr hG
            · rename_i hin
              simp only [Bool.and_eq_true] at hin
              have hzt : z = .top := hk.top (by
                have := hin.2
                unfold inTop at this
                split at this
                · assumption
                · cases this)
              subst hzt
              split at hG
              · rename_i ids vs obs hp
                obtain ⟨g3, k1, k2, k3, k4⟩ := pack_fr hS.inv hS.fr (.refl hS.inv) (lives_reps hS.fr slots).1 hp
                exact onward (c1 := { c with todo := .code body :: .inLoop body (some slots) :: k, fr := frOf (lives c.fr slots) vs, st := obs }) hz hS hG (fun cs => .one stepR_inLoop) k1 k4 k2 k3 rfl rfl rfl rfl hk2
              · exact pr hG
    | ops all rest => exact ops_good hE hc hG
    | on all o rest =>
      intro Z g w tmps todo hS
      have htop := hS.top
      cases htop with
      | items hi =>
        rw [hc] at hi
        generalize Z.kind = z at hi
        cases hi
      | on hc' ho hd hdst hg hk =>
        rw [hc] at hc'
        cases hc'
        exact perform_good hE hS ho hd hdst hg hk (GYes.wanted hS.fr hg) hG
    | dops all rest i base foot => exact dops_good hG
    | don all o rest i base foot =>
      intro hy hdst
      simp only [stepItem, stepDon] at hG
      split at hG
      · exact hG.elim
      · rename_i a ha
        exact performD_good ha hy hdst hG
    | rounds r i => exact rounds_good hG
    | head r i => exact head_good hE hG
    | rin r i => exact fun hi => rin_good hE hi hG
    | begin => exact begin_good hc hG
    | rend r fr i => exact rend_good hE hc hG

theorem entry_spec {f : Nat} {args : List (V T)} {obs : List (Ob T)} {e : Cfg T} (h : entry E f args obs = some e) : ∃ fn b, E.fns f = some fn ∧ fn.body = some b ∧ e = { todo := [.code b, .code .ret], fr := argSlots 0 args, st := obs, fn := f, keep := obs.length, n := fn.ntmps, res := fn.results.toList } := by
  unfold entry at h
  split at h
  · rename_i fn hfn
    split at h
    · rename_i b hb
      simp only [Option.some.injEq] at h
      exact ⟨fn, b, hfn, hb, h.symm⟩
    · cases h
  · cases h
theorem argSlots_get : ∀ {args : List (V T)} {i t : Nat} {v : V T}, Fr.get (argSlots i args) t = some v → i ≤ t ∧ args[t - i]? = some v
  | [], _, _, _, h => by simp [argSlots, Fr.get] at h
  | u :: args, i, t, v, h => by
    simp only [argSlots, Fr.get] at h
    split at h
    · rename_i hb
      have := Nat.eq_of_beq_eq_true hb
      subst this
      exact ⟨Nat.le_refl _, by simpa using h⟩
    · obtain ⟨h1, h2⟩ := argSlots_get h
      refine ⟨by omega, ?_⟩
      rw [show t - i = (t - (i + 1)) + 1 by omega, List.getElem?_cons_succ]
      exact h2
/-- A function whose body is run does what the run says. -/
theorem callee_of (hE : EnvOk P E) {f : Nat} {args : List (V T)} {obs obs' : List (Ob T)} {e : Cfg T} {r : V T} (he : entry E f args obs = some e) (hG : Good P E e r obs') : Callee P E f args obs r obs' := by
  obtain ⟨fn, b, hfn, hb, rfl⟩ := entry_spec he
  obtain ⟨hpf, hname⟩ := hE.fns f fn hfn
  have hitems : ItemsOk .top ([.code b, .code .ret] : List (Item T)) [.code b] := .code .bot
  refine ⟨⟨fn, hpf, by rw [hb]; rfl, hname⟩, fun g w xs hi hr cs => ?_⟩
  have hsim : Sim P E ⟨bf f, marks [], [], .top, g, w⟩ { todo := [.code b, .code .ret], fr := argSlots 0 args, st := obs, fn := f, keep := obs.length, n := fn.ntmps, res := fn.results.toList } g w ((⟨xs⟩ : Array Value) ++ Array.replicate (fn.ntmps - xs.length) undef) [.code b] := by
    refine ⟨hi, fun t v hv => ?_, ?_, .items hitems, ⟨fn, hpf, rfl⟩, ⟨[], rfl, rfl, rfl, ⟨.nil, fun r h => by cases h⟩⟩, .refl _ _, .refl _ _⟩
    · obtain ⟨_, h1⟩ := argSlots_get hv
      rw [Nat.sub_zero] at h1
      obtain ⟨x, h2, h3⟩ := hr.get h1
      refine ⟨x, ?_, h3⟩
      have hlt := (List.getElem?_eq_some_iff.1 h2).1
      rw [Array.getElem?_append_left (by simpa using hlt)]
      simpa using h2
    · show fn.ntmps ≤ Array.size _
      simp
      omega
  obtain ⟨fr', w', g', x, h1, h2, h3, h4, h5, h6, h7⟩ := hG.sound ⟨_, _, hitems⟩ _ _ _ _ _ hsim cs
  refine ⟨.returned x, w', fr', ⟨x, g', rfl, ⟨h4, h5, fun i l hl => ?_⟩, h7⟩, ?_, h2, h3⟩
  · refine h6 i l ?_ hl
    show i < obs.length
    rw [← hi.len]
    exact (List.getElem?_eq_some_iff.1 hl).1
  · have : Frame.enter P f ⟨xs⟩ .normal = (bf f).atR ⟨(⟨xs⟩ : Array Value) ++ Array.replicate (fn.ntmps - xs.length) undef, []⟩ [.code b] := by
      simp [Frame.enter, Frame.atR, hpf, hb, bf]
      rfl
    rw [this]
    exact h1
theorem runs_good (hE : EnvOk P E) {X : Nat → List (V T) → List (Ob T) → V T → List (Ob T) → Prop} (hX : ∀ f args obs r obs', X f args obs r obs' → Callee P E f args obs r obs') {c : Cfg T} {v : V T} {st' : List (Ob T)} (h : Runs E X c v st') : Good P E c v st' := by
  induction h with
  | go h k ih => exact step_good hE (by rw [h]; exact ih)
  | need h k ih => exact step_good hE (by rw [h]; exact ⟨rfl, ih⟩)
  | br h kt kf iht ihf => exact step_good hE (by rw [h]; exact ⟨iht, ihf⟩)
  | fork h kd kc ihd ihc => exact step_good hE (by rw [h]; exact ⟨ihd, ihc⟩)
  | ext h hx hk ih => exact step_good hE (by rw [h]; exact ⟨_, _, hX _ _ _ _ _ hx, ih⟩)
  | enter h he hr hk ihr ih => exact step_good hE (by rw [h]; exact ⟨_, _, callee_of hE he ihr, ih⟩)
  | ret h => exact step_good hE (by rw [h]; exact ⟨rfl, rfl⟩)
  | cut h k ih => exact step_good hE (by rw [h]; exact ih)
/-- The one theorem: a run that the interpreter has is a call that the program makes. -/
theorem runs_callee (hE : EnvOk P E) {X : Nat → List (V T) → List (Ob T) → V T → List (Ob T) → Prop} (hX : ∀ f args obs r obs', X f args obs r obs' → Callee P E f args obs r obs') {f : Nat} {args : List (V T)} {obs obs' : List (Ob T)} {e : Cfg T} {r : V T}
    (he : entry E f args obs = some e) (h : Runs E X e r obs') : Callee P E f args obs r obs' := callee_of hE he (runs_good hE hX h)
end Go.Proofs.YtnenfgpjedddoaaGreat.AI
