/- Layer 10: valid codices: the program's side. -/
import Derived.Test.YtnenfgpjedddoaaGreatAIL10i
set_option linter.unusedVariables false
set_option linter.unusedSimpArgs false
namespace Go.Proofs.YtnenfgpjedddoaaGreat.AI
open Go
variable {X : XX}

theorem call_KFits (c : S31) (oc : okC c) (m : List (Int × Int)) (hm : Lines c m) (e : S60) (oe : okE e) : Calld EV X 106 [.agg (encT .n31 c ++ [.map 0]), .agg (encT .n60 e)] [.map .n3 .n3 m] (.bool (dec (fitsS c e))) [.map .n3 .n3 m] := by
  obtain ⟨r, r1, r2, r3, r4, rc⟩ := call_CSize (X := X) e oe 1 (by omega)
  refine calld_run rfl (runs_by (KFits_0_eq c m e) ?_)
  simp only [Tr.ok, nd_ok, and_true, true_and, Int.toNat_natCast, Bool.and_eq_true, Bool.or_eq_true, Bool.not_eq_true', Bool.not_eq_false', Bool.not_not, decide_eq_true_eq, decide_eq_false_iff_not, beq_iff_eq, beq_eq_false_iff_ne, ne_eq, Bool.false_eq_true, Bool.true_eq_false, false_implies, forall_const]
  refine ⟨(r : Int), rc, fun h => ⟨((dec (nodeOk c e) : Bool), m), call_KNode c oc m hm e oe, lf ?_, rfl⟩, fun h => lff fun h2 => ?_⟩
  · have h : r ≤ 400 := h
    have := r3.1 h
    show dec (nodeOk c e) = true ↔ _
    rw [dec_iff]
    exact ⟨fun h => ⟨⟨by omega, by omega⟩, h⟩, fun h => h.2⟩
  · have h : ¬ r ≤ 400 := h
    exact h (r3.2 ⟨by have := h2.1; omega, by have := h2.1; omega⟩)
theorem call_KArt (c : S31) (oc : okC c) (m : List (Int × Int)) (hm : Lines c m) (a : S62) (oa : okA a) (hl : 0 ≤ a.f1 ∧ a.f1 < c.f1.length) : Calld EV X 61 [.agg (encT .n31 c ++ [.map 0]), .agg (encT .n62 a)] [.map .n3 .n3 m] (.bool (dec (artK DC c a))) [.map .n3 .n3 m] := by
  have no : ¬ artK DC c a → V.bool (T := T) false = .bool (dec (artK DC c a)) := fun h => lff h
  refine calld_run rfl (runs_by (KArt_0_eq c m a) ?_)
  simp only [Tr.ok, nd_ok, and_true, true_and, Int.toNat_natCast, Bool.and_eq_true, Bool.or_eq_true, Bool.not_eq_true', Bool.not_eq_false', Bool.not_not, decide_eq_true_eq, decide_eq_false_iff_not, beq_iff_eq, beq_eq_false_iff_ne, ne_eq, Bool.false_eq_true, Bool.true_eq_false, false_implies, forall_const]
  refine ⟨_, call_CFrom _ _ _, fun h1 => ⟨_, call_CFrom _ _ _, fun h2 => ⟨_, call_CFrom _ _ _, fun h3 => ⟨fun h4 => ⟨_, call_CFrom _ _ _, fun h5 => no fun h => ?_, fun h5 => ?_⟩, fun h4 => no fun h => ?_⟩, fun h3 => no fun h => ?_⟩, fun h2 => no fun h => ?_⟩, fun h1 => no fun h => ?_⟩
  · have := h.2.2.2.2.1
    grind
  · have e1 : 1 ≤ a.f0 ∧ a.f0 ≤ 1000000 := by grind
    have e2 : 0 ≤ a.f2 ∧ a.f2 ≤ 1000000 := by grind
    have e3 : DC a := by unfold DC; grind
    have e5 : 0 ≤ a.f5 ∧ a.f5 ≤ 36524 := by grind
    have t11 : (∀ n ∈ a.f7, (lineOf c n).isSome = true) → ∀ j, j ≤ a.f6.length → (∀ e ∈ a.f6.take j, e.f2 = ([116, 114, 117, 116, 104] : List UInt8) ∧ fitsS c e) → Runs EV X (KArt_11 a.f6 (a.f6.length : Int) (j : Int) m c a) (.bool (dec (artK DC c a))) [.map .n3 .n3 m] := by
      intro hu
      have h6l := oa.when
      refine down a.f6.length (fun j hj hj2 hn => ?_) (fun j hj ih2 _ hn => ?_)
      · refine runs_by (KArt_11_eq _ _ _ _ _ _) ?_
        rw [List.take_of_length_le hj] at hn
        simp only [Tr.ok, nd_ok, and_true, true_and, Int.toNat_natCast, Bool.and_eq_true, Bool.or_eq_true, Bool.not_eq_true', Bool.not_eq_false', Bool.not_not, decide_eq_true_eq, decide_eq_false_iff_not, beq_iff_eq, beq_eq_false_iff_ne, ne_eq, Bool.false_eq_true, Bool.true_eq_false, false_implies, forall_const]
        refine ⟨fun h => by omega, fun _ => ⟨hl, fun hun => ⟨((dec (fitsS c a.f8) : Bool), m), call_KFits c oc m hm _ oa.amount, lf ?_, rfl⟩, fun hun => no fun h => hun h.2.2.2.2.2.2.2.1⟩⟩
        show dec (fitsS c a.f8) = true ↔ _
        rw [dec_iff]
        exact ⟨fun h => ⟨e1, e2, e3, by omega, e5, hu, hn, hun, h⟩, fun h => h.2.2.2.2.2.2.2.2⟩
      · refine runs_by (KArt_11_eq _ _ _ _ _ _) ?_
        have hmj := List.getElem_mem hj
        simp only [Tr.ok, nd_ok, and_true, true_and, Int.toNat_natCast, Bool.and_eq_true, Bool.or_eq_true, Bool.not_eq_true', Bool.not_eq_false', Bool.not_not, decide_eq_true_eq, decide_eq_false_iff_not, beq_iff_eq, beq_eq_false_iff_ne, ne_eq, Bool.false_eq_true, Bool.true_eq_false, false_implies, forall_const, getD_at hj]
        rw [wr (x := (j : Int) + 1) (by omega) (by omega)]
        refine ⟨fun _ => ⟨by omega, fun hun => ⟨((dec (fitsS c a.f6[j]) : Bool), m), call_KFits c oc m hm _ (oa.whens _ hmj), fun hf => ⟨no fun h => ?_, rfl⟩, fun hf => ih2 (by omega) fun e he => ?_⟩, fun hun => no fun h => ?_⟩, fun h => by omega⟩
        · have hf : dec (fitsS c a.f6[j]) = false := by simpa using hf
          exact dec_not.1 hf (h.2.2.2.2.2.2.1 _ hmj).2
        · have hf : dec (fitsS c a.f6[j]) = true := by simpa using hf
          rw [List.take_succ_eq_append_getElem hj, List.mem_append, List.mem_singleton] at he
          rcases he with he | rfl
          · exact hn e he
          · exact ⟨hun, dec_iff.1 hf⟩
        · exact hun (h.2.2.2.2.2.2.1 _ hmj).1
    have t4 : ∀ j, j ≤ a.f7.length → (∀ n ∈ a.f7.take j, (lineOf c n).isSome = true) → Runs EV X (KArt_4 a.f7 (a.f7.length : Int) (j : Int) m c a) (.bool (dec (artK DC c a))) [.map .n3 .n3 m] := by
      have h7l := oa.except
      refine down a.f7.length (fun j hj hj2 hn => ?_) (fun j hj ih2 _ hn => ?_)
      · refine runs_by (KArt_4_eq _ _ _ _ _ _) ?_
        rw [List.take_of_length_le hj] at hn
        simp only [Tr.ok, nd_ok, and_true, true_and, Int.toNat_natCast, Bool.and_eq_true, Bool.or_eq_true, Bool.not_eq_true', Bool.not_eq_false', Bool.not_not, decide_eq_true_eq, decide_eq_false_iff_not, beq_iff_eq, beq_eq_false_iff_ne, ne_eq, Bool.false_eq_true, Bool.true_eq_false, false_implies, forall_const]
        exact ⟨fun h => by omega, fun _ => t11 hn 0 (by omega) fun e he => by simp at he⟩
      · refine runs_by (KArt_4_eq _ _ _ _ _ _) ?_
        have hmj := List.getElem_mem hj
        simp only [Tr.ok, nd_ok, and_true, true_and, Int.toNat_natCast, Bool.and_eq_true, Bool.or_eq_true, Bool.not_eq_true', Bool.not_eq_false', Bool.not_not, decide_eq_true_eq, decide_eq_false_iff_not, beq_iff_eq, beq_eq_false_iff_ne, ne_eq, Bool.false_eq_true, Bool.true_eq_false, false_implies, forall_const, getD_at hj]
        have hlk := hm.look a.f7[j]
        rw [wr (x := (j : Int) + 1) (by omega) (by omega), hlk]
        refine ⟨fun _ => ⟨by omega, fun hs => no fun h => ?_, fun hs => ih2 (by omega) fun n hnm => ?_⟩, fun h => by omega⟩
        · have := h.2.2.2.2.2.1 _ hmj
          rw [this] at hs; cases hs
        · rw [List.take_succ_eq_append_getElem hj, List.mem_append, List.mem_singleton] at hnm
          rcases hnm with hnm | rfl
          · exact hn n hnm
          · exact hs
    exact t4 0 (by omega) fun n hn => by simp at hn
  · have := h.2.2.2.1; omega
  · have := h.2.2.1; unfold DC at this; grind
  · have := h.2.1; grind
  · have := h.1; grind
theorem call_KArt3 (c : S31) (oc : okC c) (m : List (Int × Int)) (hm : Lines c m) (a : S62) (oa : okA a) (hl : 0 ≤ a.f1 ∧ a.f1 < c.f1.length) : Calld EV X 60 [.agg (encT .n62 a), .ptr 0 0] [.box 97 (encT .n31 c ++ [.map 1]), .map .n3 .n3 m] (.bool (!dec (artK DC c a))) [.box 97 (encT .n31 c ++ [.map 1]), .map .n3 .n3 m] := by
  refine calld_run rfl (runs_by (KArt3_0_eq c m a) ?_)
  simp only [Tr.ok, nd_ok, and_true, true_and, Int.toNat_natCast, Bool.and_eq_true, Bool.or_eq_true, Bool.not_eq_true', Bool.not_eq_false', Bool.not_not, decide_eq_true_eq, decide_eq_false_iff_not, beq_iff_eq, beq_eq_false_iff_ne, ne_eq, Bool.false_eq_true, Bool.true_eq_false, false_implies, forall_const]
  exact ⟨((dec (artK DC c a) : Bool), m), call_KArt c oc m hm a oa hl, rfl, rfl⟩
theorem call_CFe (c : S31) (oc : okC c) (m : List (Int × Int)) (hm : Lines c m) (hl : ∀ a ∈ c.f2, 0 ≤ a.f1 ∧ a.f1 < c.f1.length) :
    Calld EV X 59 [.sl .n62 c.f2 .no, .fn 60 [] [.ptr 0 0]] [.box 97 (encT .n31 c ++ [.map 1]), .map .n3 .n3 m] (.bool (!dec (∀ a ∈ c.f2, artK DC c a))) [.box 97 (encT .n31 c ++ [.map 1]), .map .n3 .n3 m] := by
  have hal := oc.arts
  have loop : ∀ i, i ≤ c.f2.length → ∃ r : Int, (0 ≤ r ↔ ¬ ∀ k ∈ c.f2.drop i, artK DC c k) ∧ Runs EV X (IFe_2 c.f2 (c.f2.length : Int) (i : Int) c m) (.int .i64 r) [.box 97 (encT .n31 c ++ [.map 1]), .map .n3 .n3 m] := by
    refine down c.f2.length (fun i hi hi2 => ⟨-1, ?_, ?_⟩) (fun i hi ih _ => ?_)
    · rw [List.drop_eq_nil_of_le hi]; simp
    · refine runs_by (IFe_2_eq _ _ _ _ _) ?_
      simp only [Tr.ok, nd_ok, and_true, true_and, Int.toNat_natCast, Bool.and_eq_true, Bool.or_eq_true, Bool.not_eq_true', Bool.not_eq_false', Bool.not_not, decide_eq_true_eq, decide_eq_false_iff_not, beq_iff_eq, beq_eq_false_iff_ne, ne_eq, Bool.false_eq_true, Bool.true_eq_false, false_implies, forall_const]
      exact ⟨fun h => by omega, fun _ => trivial⟩
    · obtain ⟨r, hr, hruns⟩ := ih (by omega)
      rw [List.drop_eq_getElem_cons hi]
      have hmm := List.getElem_mem hi
      have hk := call_KArt3 (X := X) c oc m hm _ (oc.art _ hmm) (hl _ hmm)
      by_cases hx : artK DC c c.f2[i]
      · refine ⟨r, by simp only [List.mem_cons, forall_eq_or_imp, hx, true_and]; exact hr, runs_by (IFe_2_eq _ _ _ _ _) ?_⟩
        simp only [Tr.ok, nd_ok, and_true, true_and, Int.toNat_natCast, Bool.and_eq_true, Bool.or_eq_true, Bool.not_eq_true', Bool.not_eq_false', Bool.not_not, decide_eq_true_eq, decide_eq_false_iff_not, beq_iff_eq, beq_eq_false_iff_ne, ne_eq, Bool.false_eq_true, Bool.true_eq_false, false_implies, forall_const, getD_at hi]
        refine ⟨fun _ => ⟨by omega, ((!dec (artK DC c c.f2[i]) : Bool), c, m), hk, fun h => ?_, fun h => ?_⟩, fun h => by omega⟩
        · have h : (!dec (artK DC c c.f2[i])) = true := h
          rw [dec_true hx] at h; cases h
        · rw [wr (by omega) (by omega)]; exact hruns
      · refine ⟨i, by simp only [List.mem_cons, forall_eq_or_imp, hx, false_and, not_false_eq_true, iff_true]; omega, runs_by (IFe_2_eq _ _ _ _ _) ?_⟩
        simp only [Tr.ok, nd_ok, and_true, true_and, Int.toNat_natCast, Bool.and_eq_true, Bool.or_eq_true, Bool.not_eq_true', Bool.not_eq_false', Bool.not_not, decide_eq_true_eq, decide_eq_false_iff_not, beq_iff_eq, beq_eq_false_iff_ne, ne_eq, Bool.false_eq_true, Bool.true_eq_false, false_implies, forall_const, getD_at hi]
        refine ⟨fun _ => ⟨by omega, ((!dec (artK DC c c.f2[i]) : Bool), c, m), hk, fun h => rfl, fun h => ?_⟩, fun h => by omega⟩
        have h : (!dec (artK DC c c.f2[i])) = false := h
        rw [dec_false hx] at h; cases h
  obtain ⟨r, hr, h⟩ := loop 0 (by omega)
  have h2 : Calld EV X 104 [.sl .n62 c.f2 .no, .fn 60 [] [.ptr 0 0]] [.box 97 (encT .n31 c ++ [.map 1]), .map .n3 .n3 m] (.int .i64 r) [.box 97 (encT .n31 c ++ [.map 1]), .map .n3 .n3 m] := calld_run rfl (runs_by (IFe_0_eq c.f2 c m) h)
  refine calld_run rfl (runs_by (CFe_0_eq c.f2 c m) ?_)
  simp only [Tr.ok, nd_ok, and_true, true_and, Int.toNat_natCast, Bool.and_eq_true, Bool.or_eq_true, Bool.not_eq_true', Bool.not_eq_false', Bool.not_not, decide_eq_true_eq, decide_eq_false_iff_not, beq_iff_eq, beq_eq_false_iff_ne, ne_eq, Bool.false_eq_true, Bool.true_eq_false, false_implies, forall_const]
  refine ⟨((r : Int), c, m), h2, ?_⟩
  rw [← dec_neg, ← dec_congr (by simpa using hr), dec_dec]
  exact ⟨rfl, rfl⟩

/-- The line of the first article that has the number. -/
def lineL (l : List S62) (n : Int) : Option Int := (l.find? fun a => decide (a.f0 = n)).map S62.f1
theorem lineL_none {l : List S62} {n : Int} (h : lineL l n = none) : ∀ a ∈ l, ¬ a.f0 = n := by
  unfold lineL at h
  simp only [Option.map_eq_none_iff, List.find?_eq_none, decide_eq_true_eq] at h
  exact h
theorem lineL_some {l : List S62} {n x : Int} (h : lineL l n = some x) : ∃ a ∈ l, a.f0 = n ∧ a.f1 = x := by
  unfold lineL at h
  simp only [Option.map_eq_some_iff] at h
  obtain ⟨a, h1, h2⟩ := h
  exact ⟨a, List.mem_of_find?_eq_some h1, by have := List.find?_some h1; simpa using this, h2⟩
theorem lineL_app (l : List S62) (a : S62) (n : Int) : lineL (l ++ [a]) n = match lineL l n with | some x => some x | none => if a.f0 = n then some a.f1 else none := by
  unfold lineL
  rw [List.find?_append]
  cases h : l.find? fun a => decide (a.f0 = n) with
  | some b => simp
  | none =>
    by_cases e : a.f0 = n <;> simp [e]
theorem lineOf_eq (c : S31) (n : Int) : lineOf c n = lineL c.f2 n := by
  unfold lineOf lineL idxS
  by_cases h : c.f2.findIdx (fun a => decide (a.f0 = n)) < c.f2.length
  · have hp := List.findIdx_getElem (xs := c.f2) (p := fun a => decide (a.f0 = n)) (w := h)
    rw [if_pos h, if_pos (by omega), Int.toNat_natCast, getD_at h]
    have : c.f2.find? (fun a => decide (a.f0 = n)) = some c.f2[c.f2.findIdx fun a => decide (a.f0 = n)] := by
      rw [List.find?_eq_some_iff_getElem]
      refine ⟨hp, _, h, rfl, fun j hj => ?_⟩
      have := List.not_of_lt_findIdx hj
      simpa using this
    rw [this]; rfl
  · rw [if_neg h, if_neg (by omega)]
    have h2 : c.f2.findIdx (fun a => decide (a.f0 = n)) = c.f2.length := by have := List.findIdx_le_length (xs := c.f2) (p := fun a => decide (a.f0 = n)); omega
    have : c.f2.find? (fun a => decide (a.f0 = n)) = none := by
      rw [List.find?_eq_none]
      intro x hx
      have := List.findIdx_eq_length.1 h2 x hx
      simpa using this
    rw [this]; rfl
theorem call_CValid (c : S31) (oc : okC c) : Calld EV X 22 [.agg (encT .n31 c)] [] (.bool (dec (validS DC c))) [] := by
  have no : ¬ validS DC c → V.bool (T := T) false = .bool (dec (validS DC c)) := fun h => lff h
  have hal := oc.arts
  have loop : declOk c.f0 0 0 → declOk c.f1 1 4 → c.f2.length ≤ 60 → ∀ i, i ≤ c.f2.length → ∀ m : List (T K.n3 × T K.n3),
      (∀ n, lookupT K.n3 K.n3 EV m n = lineL (c.f2.take i) n) → (∀ a ∈ c.f2.take i, (0 ≤ a.f1 ∧ a.f1 < c.f1.length) ∧ lineL (c.f2.take i) a.f0 = some a.f1) →
      Runs EV X (CValid_5 c.f2 (c.f2.length : Int) (i : Int) c m) (.bool (dec (validS DC c))) [] := by
    intro d1 d2 h60
    refine down c.f2.length (fun i hi hi2 m hm ha => ?_) (fun i hi ih _ m hm ha => ?_)
    · refine runs_by (CValid_5_eq _ _ _ _ _) ?_
      rw [List.take_of_length_le hi] at ha
      have hm : ∀ n, lookupT K.n3 K.n3 EV m n = lineL c.f2 n := fun n => by have := hm n; rwa [List.take_of_length_le hi] at this
      have hL : Lines c m := ⟨fun n => by rw [hm, lineOf_eq], fun n l hn => by
        rw [lineOf_eq] at hn
        obtain ⟨a, ham, _, rfl⟩ := lineL_some hn
        exact (ha a ham).1⟩
      simp only [Tr.ok, nd_ok, and_true, true_and, Int.toNat_natCast, Bool.and_eq_true, Bool.or_eq_true, Bool.not_eq_true', Bool.not_eq_false', Bool.not_not, decide_eq_true_eq, decide_eq_false_iff_not, beq_iff_eq, beq_eq_false_iff_ne, ne_eq, Bool.false_eq_true, Bool.true_eq_false, false_implies, forall_const]
      refine ⟨fun h => by omega, fun _ => ⟨((!dec (∀ a ∈ c.f2, artK DC c a) : Bool), c, m), call_CFe c oc m hL fun a ham => (ha a ham).1, lf ?_⟩⟩
      show (!!dec (∀ a ∈ c.f2, artK DC c a)) = true ↔ _
      rw [Bool.not_not, dec_iff]
      exact ⟨fun h => ⟨d1, d2, h60, fun a ham => ⟨(ha a ham).1, by rw [lineOf_eq]; exact (ha a ham).2, h a ham⟩⟩, fun h a ham => (h.2.2.2 a ham).2.2⟩
    · have hmi := List.getElem_mem hi
      refine runs_by (CValid_5_eq _ _ _ _ _) ?_
      simp only [Tr.ok, nd_ok, and_true, true_and, Int.toNat_natCast, Bool.and_eq_true, Bool.or_eq_true, Bool.not_eq_true', Bool.not_eq_false', Bool.not_not, decide_eq_true_eq, decide_eq_false_iff_not, beq_iff_eq, beq_eq_false_iff_ne, ne_eq, Bool.false_eq_true, Bool.true_eq_false, false_implies, forall_const, getD_at hi]
      rw [wr (x := (i : Int) + 1) (by omega) (by omega), hm]
      have hmem : ∀ x ∈ c.f2.take i, x ∈ c.f2 := fun x hx => List.mem_of_mem_take hx
      have step : (0 ≤ c.f2[i].f1 ∧ c.f2[i].f1 < c.f1.length) → (lineL (c.f2.take i) c.f2[i].f0 = none ∨ lineL (c.f2.take i) c.f2[i].f0 = some c.f2[i].f1) → Runs EV X (CValid_5 c.f2 (c.f2.length : Int) ((i : Int) + 1) c (updT K.n3 K.n3 EV m c.f2[i].f0 c.f2[i].f1)) (.bool (dec (validS DC c))) [] := by
        intro hr hc
        have hlk : ∀ n, lineL (c.f2.take (i + 1)) n = if n = c.f2[i].f0 then some c.f2[i].f1 else lineL (c.f2.take i) n := by
          intro n
          rw [List.take_succ_eq_append_getElem hi, lineL_app]
          by_cases e : n = c.f2[i].f0
          · subst e
            rcases hc with hc | hc <;> simp [hc]
          · rw [if_neg e]
            cases lineL (c.f2.take i) n with
            | some x => rfl
            | none => simp only; rw [if_neg (fun h => e h.symm)]
        refine ih (by omega) _ (fun n => ?_) (fun a ham => ?_)
        · rw [hlk]
          by_cases e : n = c.f2[i].f0
          · subst e
            rw [if_pos rfl, lookup_same eq3]
          · rw [if_neg e, lookup_other eq3 _ e, hm]
        · rw [List.take_succ_eq_append_getElem hi, List.mem_append, List.mem_singleton] at ham
          rw [hlk]
          rcases ham with ham | rfl
          · have h1 := ha a ham
            refine ⟨h1.1, ?_⟩
            by_cases e : a.f0 = c.f2[i].f0
            · rw [if_pos e]
              rw [e] at h1
              rcases hc with hc | hc
              · rw [hc] at h1; cases h1.2
              · rw [hc] at h1; exact h1.2
            · rw [if_neg e]; exact h1.2
          · exact ⟨hr, by rw [if_pos rfl]⟩
      refine ⟨fun _ => ⟨by omega, fun h1 => ⟨fun h2 => no fun h => ?_, fun h2 => ⟨fun h3 => ⟨fun h4 => no fun h => ?_, fun h4 => step ⟨by omega, by omega⟩ ?_⟩, fun h3 => step ⟨by omega, by omega⟩ ?_⟩⟩, fun h1 => no fun h => ?_⟩, fun h => by omega⟩
      · have := (h.2.2.2 _ hmi).1; omega
      · have h5 := (h.2.2.2 _ hmi).2.1
        rw [lineOf_eq] at h5
        cases hx : lineL (c.f2.take i) c.f2[i].f0 with
        | none => rw [hx] at h3; cases h3
        | some x =>
          rw [hx] at h4
          obtain ⟨b, hb, hb0, hb1⟩ := lineL_some hx
          have h6 := (h.2.2.2 _ (hmem b hb)).2.1
          rw [lineOf_eq, hb0, h5] at h6
          exact h4 (by simp only [Option.getD_some]; rw [← hb1]; exact (Option.some.inj h6).symm)
      · cases hx : lineL (c.f2.take i) c.f2[i].f0 with
        | none => exact .inl rfl
        | some x => rw [hx] at h4; exact .inr (congrArg some h4)
      · cases hx : lineL (c.f2.take i) c.f2[i].f0 with
        | none => exact .inl rfl
        | some x => rw [hx] at h3; cases h3
      · have := (h.2.2.2 _ hmi).1; omega
  refine calld_run rfl (runs_by (CValid_0_eq c) ?_)
  simp only [Tr.ok, nd_ok, and_true, true_and, Int.toNat_natCast, Bool.and_eq_true, Bool.or_eq_true, Bool.not_eq_true', Bool.not_eq_false', Bool.not_not, decide_eq_true_eq, decide_eq_false_iff_not, beq_iff_eq, beq_eq_false_iff_ne, ne_eq, Bool.false_eq_true, Bool.true_eq_false, false_implies, forall_const]
  refine ⟨(dec (declOk c.f0 0 0) : Bool), call_CDecl1 _ oc.okf, fun h1 => ⟨(dec (declOk c.f1 1 4) : Bool), call_CDecl2 _ oc.okl, fun h2 => ⟨fun h3 => no fun h => ?_, fun h3 => ?_⟩, fun h2 => no fun h => ?_⟩, fun h1 => no fun h => ?_⟩
  · have := h.2.2.1; omega
  · have h1 : dec (declOk c.f0 0 0) = true := by simpa using h1
    have h2 : dec (declOk c.f1 1 4) = true := by simpa using h2
    exact loop (dec_iff.1 h1) (dec_iff.1 h2) (by omega) 0 (by omega) [] (fun n => by rw [List.take_zero]; rfl) fun a h => by simp at h
  · have h2 : dec (declOk c.f1 1 4) = false := by simpa using h2
    exact dec_not.1 h2 h.2.1
  · have h1 : dec (declOk c.f0 0 0) = false := by simpa using h1
    exact dec_not.1 h1 h.1
/-- What the reference holds valid the program holds valid. -/
theorem valid_sub {c : S31} (h : validS DR c) : validS DC c := by
  refine ⟨h.1, h.2.1, h.2.2.1, fun a ha => ?_⟩
  obtain ⟨h1, h2, h3, h4, h5, h6⟩ := h.2.2.2 a ha
  refine ⟨h1, h2, h3, h4, ?_, h6⟩
  have := h6.1
  unfold DR at h5
  unfold DC
  rw [wr (by omega) (by omega)]
  omega
end Go.Proofs.YtnenfgpjedddoaaGreat.AI
