/- Layer 10: valid codices: both sides. -/
import Derived.Test.YtnenfgpjedddoaaGreatAIL10h
set_option linter.unusedVariables false
set_option linter.unusedSimpArgs false
namespace Go.Proofs.YtnenfgpjedddoaaGreat.AI
open Go
variable {X : XX}

theorem idxS_some {α : Type} {p : α → Bool} {l : List α} {i : Nat} (hi : i < l.length) (hp : p l[i] = true) (d : α) : 0 ≤ idxS p l ∧ p (l.getD (idxS p l).toNat d) = true := by
  have h1 : l.findIdx p < l.length := List.findIdx_lt_length_of_exists ⟨l[i], List.getElem_mem hi, hp⟩
  have e : idxS p l = (l.findIdx p : Int) := by unfold idxS; rw [if_pos h1]
  rw [e]
  refine ⟨by omega, ?_⟩
  rw [Int.toNat_natCast, getD_at h1]
  exact List.findIdx_getElem
def artK (D : S62 → Prop) (c : S31) (a : S62) : Prop :=
  (1 ≤ a.f0 ∧ a.f0 ≤ 1000000) ∧ (0 ≤ a.f2 ∧ a.f2 ≤ 1000000) ∧ D a ∧ a.f4 ≤ 36525 ∧ (0 ≤ a.f5 ∧ a.f5 ≤ 36524) ∧
    (∀ n ∈ a.f7, (lineOf c n).isSome = true) ∧ (∀ e ∈ a.f6, e.f2 = ([116, 114, 117, 116, 104] : List UInt8) ∧ fitsS c e) ∧ a.f8.f2 = (c.f1.getD a.f1.toNat d57).f1 ∧ fitsS c a.f8
def artS (D : S62 → Prop) (c : S31) (a : S62) : Prop := (0 ≤ a.f1 ∧ a.f1 < c.f1.length) ∧ lineOf c a.f0 = some a.f1 ∧ artK D c a
/-- Valid, by what the days must be. -/
def validS (D : S62 → Prop) (c : S31) : Prop := declOk c.f0 0 0 ∧ declOk c.f1 1 4 ∧ c.f2.length ≤ 60 ∧ ∀ a ∈ c.f2, artS D c a
def DR (a : S62) : Prop := 0 ≤ a.f3 ∧ a.f3 < a.f4
def DC (a : S62) : Prop := 0 ≤ a.f3 ∧ a.f3 ≤ IntKind.i64.wrap (a.f4 - 1)

theorem call_RValid (c : S31) (oc : okC c) : Calld EV X 23 [.agg (encT .n31 c)] [] (.bool (dec (validS DR c))) [] := by
  have loop : declOk c.f0 0 0 → declOk c.f1 1 4 → c.f2.length ≤ 60 → ∀ i, i ≤ c.f2.length → (∀ k (hk : k < i) (hkl : k < c.f2.length), artS DR c c.f2[k]) → Runs EV X (RValid_4 (i : Int) c) (.bool (dec (validS DR c))) [] := by
    intro d1 d2 h60
    refine down c.f2.length (fun i hi hi2 hk => ?_) (fun i hi ih _ hk => ?_)
    · refine runs_by (RValid_4_eq _ _) ?_
      simp only [Tr.ok, nd_ok, and_true, true_and, Int.toNat_natCast, Bool.and_eq_true, Bool.or_eq_true, Bool.not_eq_true', Bool.not_eq_false', Bool.not_not, decide_eq_true_eq, decide_eq_false_iff_not, beq_iff_eq, beq_eq_false_iff_ne, ne_eq, Bool.false_eq_true, Bool.true_eq_false, false_implies, forall_const]
      refine ⟨fun h => by omega, fun _ => ?_⟩
      rw [dec_true]
      refine ⟨d1, d2, h60, fun a ha => ?_⟩
      obtain ⟨k, hkl, rfl⟩ := List.getElem_of_mem ha
      exact hk k (by omega) hkl
    · have hm := List.getElem_mem hi
      have oa := oc.art _ hm
      have no : ¬ artS DR c c.f2[i] → V.bool (T := T) false = .bool (dec (validS DR c)) := fun h => lff fun h2 => h (h2.2.2.2 _ hm)
      have yes : artS DR c c.f2[i] → Runs EV X (RValid_4 ((i : Int) + 1) c) (.bool (dec (validS DR c))) [] := fun h => ih (by omega) fun k hk2 hkl => by
        by_cases e : k = i
        · subst e; exact h
        · exact hk k (by omega) hkl
      have hself : (fun a : S62 => decide (a.f0 = c.f2[i].f0)) c.f2[i] = true := by simp
      have hidx := idxS_some (p := fun a => decide (a.f0 = c.f2[i].f0)) hi hself d62
      have hlt := idxS_lt (fun a : S62 => decide (a.f0 = c.f2[i].f0)) c.f2
      have hline : lineOf c c.f2[i].f0 = some (c.f2.getD (idxS (fun a => decide (a.f0 = c.f2[i].f0)) c.f2).toNat d62).f1 := by unfold lineOf; rw [if_pos hidx.1]
      refine runs_by (RValid_4_eq _ _) ?_
      have hnum := call_RNumbered (X := X) c oc.arts c.f2[i].f0
      simp only [Tr.ok, nd_ok, and_true, true_and, Int.toNat_natCast, Bool.and_eq_true, Bool.or_eq_true, Bool.not_eq_true', Bool.not_eq_false', Bool.not_not, decide_eq_true_eq, decide_eq_false_iff_not, beq_iff_eq, beq_eq_false_iff_ne, ne_eq, Bool.false_eq_true, Bool.true_eq_false, false_implies, forall_const, getD_at hi]
      generalize idxS (fun a => decide (a.f0 = c.f2[i].f0)) c.f2 = r at *
      refine ⟨fun _ => ⟨by omega, fun h1 => ⟨fun h2 => ⟨fun h3 => ⟨fun h4 => ⟨(r : Int), hnum, ⟨hidx.1, hlt.1⟩, fun h5 => ⟨fun h6 => ⟨fun h7 => no fun h => ?_, fun h7 => ⟨fun h8 => ⟨fun h9 => ⟨fun h10 => ⟨fun h11 => ⟨fun h12 => no fun h => ?_, fun h12 => ?_⟩, fun h11 => no fun h => ?_⟩, fun h10 => no fun h => ?_⟩, fun h9 => no fun h => ?_⟩, fun h8 => no fun h => ?_⟩⟩, fun h6 => no fun h => ?_⟩, fun h5 => no fun h => ?_⟩, fun h4 => no fun h => ?_⟩, fun h3 => no fun h => ?_⟩, fun h2 => no fun h => ?_⟩, fun h1 => no fun h => ?_⟩, fun h => by omega⟩
      · have := h.2.2.2.1; omega
      · have := h.2.2.2.2.2.2.1; omega
      · -- the clauses
        generalize c.f2[i] = a at *
        have t17 : (∀ e ∈ a.f6, e.f2 = ([116, 114, 117, 116, 104] : List UInt8) ∧ fitsS c e) → ∀ j, j ≤ a.f7.length → (∀ n ∈ a.f7.take j, (lineOf c n).isSome = true) → Runs EV X (RValid_17 (i : Int) (j : Int) c a) (.bool (dec (validS DR c))) [] := by
          intro hw
          have h7l := oa.except
          refine down a.f7.length (fun j hj hj2 hn => ?_) (fun j hj ih2 _ hn => ?_)
          · refine runs_by (RValid_17_eq _ _ _ _) ?_
            rw [List.take_of_length_le hj] at hn
            simp only [Tr.ok, nd_ok, and_true, true_and, Int.toNat_natCast, Bool.and_eq_true, Bool.or_eq_true, Bool.not_eq_true', Bool.not_eq_false', Bool.not_not, decide_eq_true_eq, decide_eq_false_iff_not, beq_iff_eq, beq_eq_false_iff_ne, ne_eq, Bool.false_eq_true, Bool.true_eq_false, false_implies, forall_const]
            rw [wr (x := (i : Int) + 1) (by omega) (by omega)]
            refine ⟨fun h => by omega, fun _ => ⟨(dec (fitsS c a.f8) : Bool), call_RFits c oc _ oa.amount, fun hf => ⟨by omega, fun hu => no fun h => ?_, fun hu => yes ?_⟩, fun hf => no fun h => ?_⟩⟩
            · exact hu h.2.2.2.2.2.2.2.2.2.1
            · have hf : dec (fitsS c a.f8) = true := by simpa using hf
              exact ⟨⟨by omega, by omega⟩, by rw [hline, h5], ⟨by omega, by omega⟩, ⟨by omega, by omega⟩, ⟨by omega, by omega⟩, by omega, ⟨by omega, by omega⟩, hn, hw, hu, dec_iff.1 hf⟩
            · have hf : dec (fitsS c a.f8) = false := by simpa using hf
              exact dec_not.1 hf h.2.2.2.2.2.2.2.2.2.2
          · refine runs_by (RValid_17_eq _ _ _ _) ?_
            have hnj := call_RNumbered (X := X) c oc.arts a.f7[j]
            simp only [Tr.ok, nd_ok, and_true, true_and, Int.toNat_natCast, Bool.and_eq_true, Bool.or_eq_true, Bool.not_eq_true', Bool.not_eq_false', Bool.not_not, decide_eq_true_eq, decide_eq_false_iff_not, beq_iff_eq, beq_eq_false_iff_ne, ne_eq, Bool.false_eq_true, Bool.true_eq_false, false_implies, forall_const, getD_at hj]
            rw [wr (x := (j : Int) + 1) (by omega) (by omega)]
            refine ⟨fun _ => ⟨by omega, (idxS (fun a' : S62 => decide (a'.f0 = a.f7[j])) c.f2 : Int), hnj, fun hlt0 => no fun h => ?_, fun hge => ih2 (by omega) fun n hnm => ?_⟩, fun h => by omega⟩
            · have hlt0 : idxS (fun a' : S62 => decide (a'.f0 = a.f7[j])) c.f2 < 0 := hlt0
              have := h.2.2.2.2.2.2.2.1 _ (List.getElem_mem hj)
              unfold lineOf at this
              rw [if_neg (by omega)] at this
              cases this
            · have hge : ¬ idxS (fun a' : S62 => decide (a'.f0 = a.f7[j])) c.f2 < 0 := hge
              rw [List.take_succ_eq_append_getElem hj, List.mem_append, List.mem_singleton] at hnm
              rcases hnm with hnm | rfl
              · exact hn n hnm
              · unfold lineOf
                rw [if_pos (by omega)]; rfl
        have t12 : ∀ j, j ≤ a.f6.length → (∀ e ∈ a.f6.take j, e.f2 = ([116, 114, 117, 116, 104] : List UInt8) ∧ fitsS c e) → Runs EV X (RValid_12 (i : Int) (j : Int) c a) (.bool (dec (validS DR c))) [] := by
          have h6l := oa.when
          refine down a.f6.length (fun j hj hj2 hn => ?_) (fun j hj ih2 _ hn => ?_)
          · refine runs_by (RValid_12_eq _ _ _ _) ?_
            rw [List.take_of_length_le hj] at hn
            simp only [Tr.ok, nd_ok, and_true, true_and, Int.toNat_natCast, Bool.and_eq_true, Bool.or_eq_true, Bool.not_eq_true', Bool.not_eq_false', Bool.not_not, decide_eq_true_eq, decide_eq_false_iff_not, beq_iff_eq, beq_eq_false_iff_ne, ne_eq, Bool.false_eq_true, Bool.true_eq_false, false_implies, forall_const]
            exact ⟨fun h => by omega, fun _ => t17 hn 0 (by omega) fun n hn => by simp at hn⟩
          · refine runs_by (RValid_12_eq _ _ _ _) ?_
            have hmj := List.getElem_mem hj
            simp only [Tr.ok, nd_ok, and_true, true_and, Int.toNat_natCast, Bool.and_eq_true, Bool.or_eq_true, Bool.not_eq_true', Bool.not_eq_false', Bool.not_not, decide_eq_true_eq, decide_eq_false_iff_not, beq_iff_eq, beq_eq_false_iff_ne, ne_eq, Bool.false_eq_true, Bool.true_eq_false, false_implies, forall_const, getD_at hj]
            rw [wr (x := (j : Int) + 1) (by omega) (by omega)]
            refine ⟨fun _ => ⟨by omega, (dec (fitsS c a.f6[j]) : Bool), call_RFits c oc _ (oa.whens _ hmj), fun hf => ⟨by omega, fun hu => no fun h => ?_, fun hu => ih2 (by omega) fun e he => ?_⟩, fun hf => no fun h => ?_⟩, fun h => by omega⟩
            · exact hu (h.2.2.2.2.2.2.2.2.1 _ hmj).1
            · have hf : dec (fitsS c a.f6[j]) = true := by simpa using hf
              rw [List.take_succ_eq_append_getElem hj, List.mem_append, List.mem_singleton] at he
              rcases he with he | rfl
              · exact hn e he
              · exact ⟨hu, dec_iff.1 hf⟩
            · have hf : dec (fitsS c a.f6[j]) = false := by simpa using hf
              exact dec_not.1 hf (h.2.2.2.2.2.2.2.2.1 _ hmj).2
        exact t12 0 (by omega) fun e he => by simp at he
      · have := h.2.2.2.2.2.2.1; omega
      · have := h.2.2.2.2.2.1; omega
      · have := h.2.2.2.2.1; unfold DR at this; omega
      · have := h.2.2.2.2.1; unfold DR at this; omega
      · have := h.2.2.2.1; omega
      · have := h.2.1
        rw [hline] at this
        exact h5 (Option.some.inj this).symm
      · have := h.1; omega
      · have := h.1; omega
      · have := h.2.2.1; omega
      · have := h.2.2.1; omega
  refine calld_run rfl (runs_by (RValid_0_eq c) ?_)
  simp only [Tr.ok, nd_ok, and_true, true_and, Int.toNat_natCast, Bool.and_eq_true, Bool.or_eq_true, Bool.not_eq_true', Bool.not_eq_false', Bool.not_not, decide_eq_true_eq, decide_eq_false_iff_not, beq_iff_eq, beq_eq_false_iff_ne, ne_eq, Bool.false_eq_true, Bool.true_eq_false, false_implies, forall_const]
  refine ⟨(dec (declOk c.f0 0 0) : Bool), call_RDecls _ oc.okf _ _, fun h1 => ⟨(dec (declOk c.f1 1 4) : Bool), call_RDecls _ oc.okl _ _, fun h2 => ⟨fun h3 => lff fun h => ?_, fun h3 => ?_⟩, fun h2 => lff fun h => ?_⟩, fun h1 => lff fun h => ?_⟩
  · have := h.2.2.1; omega
  · have h1 : dec (declOk c.f0 0 0) = true := by simpa using h1
    have h2 : dec (declOk c.f1 1 4) = true := by simpa using h2
    exact loop (dec_iff.1 h1) (dec_iff.1 h2) (by omega) 0 (by omega) fun k hk => by omega
  · have h2 : dec (declOk c.f1 1 4) = false := by simpa using h2
    exact dec_not.1 h2 h.2.1
  · have h1 : dec (declOk c.f0 0 0) = false := by simpa using h1
    exact dec_not.1 h1 h.1

/-! ### The program's side -/
theorem nodesL_kid {l : List S60} {k : S60} (h : k ∈ l) : nodes k ≤ nodesL l := by
  induction l with
  | nil => cases h
  | cons x l ih =>
    simp only [nodesL]
    rcases List.mem_cons.1 h with rfl | h
    · omega
    · have := ih h; omega
theorem call_CSize : ∀ (e : S60), okE e → ∀ (d : Nat), d ≤ 41 → ∃ r : Int, 1 ≤ r ∧ r ≤ 401 + 400 * (41 - (d : Int)) ∧ (r ≤ 400 ↔ nodes e ≤ 400 ∧ d + depthE e ≤ 41) ∧ (r ≤ 400 → r = nodes e) ∧ Calld EV X 93 [.agg (encT .n60 e), .int .i64 (d : Int)] [] (.int .i64 r) [] := by
  refine indE fun e ih oe d hd => ?_
  have hl := oe.len
  have en := nodes_eq e
  have ed := depthE_eq e
  by_cases h40 : 40 < d
  · refine ⟨401, by omega, by omega, by omega, fun h => by omega, calld_run rfl (runs_by (CSize_0_eq e d) ?_)⟩
    simp only [Tr.ok, nd_ok, and_true, true_and, Int.toNat_natCast, Bool.and_eq_true, Bool.or_eq_true, Bool.not_eq_true', Bool.not_eq_false', Bool.not_not, decide_eq_true_eq, decide_eq_false_iff_not, beq_iff_eq, beq_eq_false_iff_ne, ne_eq, Bool.false_eq_true, Bool.true_eq_false, false_implies, forall_const]
    exact ⟨fun _ => trivial, fun h => absurd h40 (by omega)⟩
  · have loop : ∀ i, i ≤ e.f4.length → 1 + nodesL (e.f4.take i) ≤ 400 → (∀ k ∈ e.f4.take i, d + 1 + depthE k ≤ 41) → ∃ r : Int, 1 ≤ r ∧ r ≤ 401 + 400 * (41 - (d : Int)) ∧ (r ≤ 400 ↔ nodes e ≤ 400 ∧ d + depthE e ≤ 41) ∧ (r ≤ 400 → r = nodes e) ∧
        Runs EV X (CSize_5 (d : Int) ((1 + nodesL (e.f4.take i) : Nat) : Int) e.f4 (e.f4.length : Int) (i : Int)) (.int .i64 r) [] := by
      refine down e.f4.length (fun i hi hi2 hs hk => ?_) (fun i hi ih2 _ hs hk => ?_)
      · rw [List.take_of_length_le hi] at hs hk ⊢
        have hdl := (depthL_le (n := 40 - d) (l := e.f4)).2 fun k hkm => by have := hk k hkm; omega
        refine ⟨(1 + nodesL e.f4 : Nat), by omega, by omega, by omega, fun _ => by omega, runs_by (CSize_5_eq _ _ _ _ _) ?_⟩
        simp only [Tr.ok, nd_ok, and_true, true_and, Int.toNat_natCast, Bool.and_eq_true, Bool.or_eq_true, Bool.not_eq_true', Bool.not_eq_false', Bool.not_not, decide_eq_true_eq, decide_eq_false_iff_not, beq_iff_eq, beq_eq_false_iff_ne, ne_eq, Bool.false_eq_true, Bool.true_eq_false, false_implies, forall_const]
        exact ⟨fun h => by omega, fun _ => trivial⟩
      · have hm := List.getElem_mem hi
        obtain ⟨r, r1, r2, r3, r4, rc⟩ := ih _ hm (oe.kid _ hm) (d + 1) (by omega)
        have hn := nodesL_take hi
        have hle := nodesL_le e.f4 (i + 1)
        have hkid := (depthL_le (n := depthL e.f4) (l := e.f4)).1 (Nat.le_refl _) _ hm
        have e1 : ((d + 1 : Nat) : Int) = (d : Int) + 1 := by omega
        rw [e1] at rc
        by_cases hbig : 400 < (1 + nodesL (e.f4.take i) : Nat) + r
        · refine ⟨(1 + nodesL (e.f4.take i) : Nat) + r, by omega, by omega, ⟨fun h => by omega, fun h => ?_⟩, fun h => by omega, runs_by (CSize_5_eq _ _ _ _ _) ?_⟩
          · by_cases hr : r ≤ 400
            · have := r4 hr; omega
            · exact absurd (r3.2 ⟨by omega, by omega⟩) hr
          · simp only [Tr.ok, nd_ok, and_true, true_and, Int.toNat_natCast, Bool.and_eq_true, Bool.or_eq_true, Bool.not_eq_true', Bool.not_eq_false', Bool.not_not, decide_eq_true_eq, decide_eq_false_iff_not, beq_iff_eq, beq_eq_false_iff_ne, ne_eq, Bool.false_eq_true, Bool.true_eq_false, false_implies, forall_const, getD_at hi]
            rw [wr (x := (d : Int) + 1) (by omega) (by omega)]
            refine ⟨fun _ => ⟨by omega, (r : Int), rc, fun h => ?_, fun h => ?_⟩, fun h => by omega⟩
            · rw [wr (by omega) (by omega)]
            · exact absurd hbig (by have h : ¬ 400 < IntKind.i64.wrap _ := h; rwa [wr (by omega) (by omega)] at h)
        · have hr := r4 (by omega)
          have hr3 := r3.1 (by omega)
          obtain ⟨q, q1, q2, q3, q4, qr⟩ := ih2 (by omega) (by omega) fun k hkm => by
            rw [List.take_succ_eq_append_getElem hi, List.mem_append, List.mem_singleton] at hkm
            rcases hkm with hkm | rfl
            · exact hk k hkm
            · exact hr3.2
          refine ⟨q, q1, q2, q3, q4, runs_by (CSize_5_eq _ _ _ _ _) ?_⟩
          simp only [Tr.ok, nd_ok, and_true, true_and, Int.toNat_natCast, Bool.and_eq_true, Bool.or_eq_true, Bool.not_eq_true', Bool.not_eq_false', Bool.not_not, decide_eq_true_eq, decide_eq_false_iff_not, beq_iff_eq, beq_eq_false_iff_ne, ne_eq, Bool.false_eq_true, Bool.true_eq_false, false_implies, forall_const, getD_at hi]
          rw [wr (x := (d : Int) + 1) (by omega) (by omega), wr (x := (i : Int) + 1) (by omega) (by omega)]
          have ew : IntKind.i64.wrap (((1 + nodesL (e.f4.take i) : Nat) : Int) + r) = ((1 + nodesL (e.f4.take (i + 1)) : Nat) : Int) := by rw [wr (by omega) (by omega)]; omega
          refine ⟨fun _ => ⟨by omega, (r : Int), rc, fun h => ?_, fun h => ?_⟩, fun h => by omega⟩
          · have h : 400 < IntKind.i64.wrap (((1 + nodesL (e.f4.take i) : Nat) : Int) + r) := h
            rw [ew] at h; omega
          · show Runs EV X (CSize_5 _ (IntKind.i64.wrap (((1 + nodesL (e.f4.take i) : Nat) : Int) + r)) _ _ _) _ _
            rw [ew]
            exact qr
    obtain ⟨r, r1, r2, r3, r4, rr⟩ := loop 0 (by omega) (by simp [nodesL]) (fun k hk => by simp at hk)
    refine ⟨r, r1, r2, r3, r4, calld_run rfl (runs_by (CSize_0_eq e d) ?_)⟩
    simp only [Tr.ok, nd_ok, and_true, true_and, Int.toNat_natCast, Bool.and_eq_true, Bool.or_eq_true, Bool.not_eq_true', Bool.not_eq_false', Bool.not_not, decide_eq_true_eq, decide_eq_false_iff_not, beq_iff_eq, beq_eq_false_iff_ne, ne_eq, Bool.false_eq_true, Bool.true_eq_false, false_implies, forall_const]
    exact ⟨fun h => by omega, fun _ => rr⟩

structure Lines (c : S31) (m : List (T K.n3 × T K.n3)) : Prop where
  look : ∀ n, lookupT K.n3 K.n3 EV m n = lineOf c n
  rng : ∀ n l, lineOf c n = some l → 0 ≤ l ∧ l < c.f1.length
theorem call_CFc (l : List S60) (hl : l.length < 1000000000000000) (c : S31) (m : List (Int × Int)) (hs : ∀ k ∈ l, Calld EV X 157 [.agg (encT .n31 c ++ [.map 0]), .agg (encT .n60 k)] [.map .n3 .n3 m] (.bool (dec (nodeOk c k))) [.map .n3 .n3 m]) :
    Calld EV X 110 [.sl .n60 l .no, .fn 188 [] [.ptr 0 0]] [.box 97 (encT .n31 c ++ [.map 1]), .map .n3 .n3 m] (.bool (!dec (∀ k ∈ l, nodeOk c k))) [.box 97 (encT .n31 c ++ [.map 1]), .map .n3 .n3 m] := by
  have c188 : ∀ k ∈ l, Calld EV X 188 [.agg (encT .n60 k), .ptr 0 0] [.box 97 (encT .n31 c ++ [.map 1]), .map .n3 .n3 m] (.bool (!dec (nodeOk c k))) [.box 97 (encT .n31 c ++ [.map 1]), .map .n3 .n3 m] := fun k hk => by
    refine calld_run rfl (runs_by (KNode1_0_eq c m k) ?_)
    simp only [Tr.ok, nd_ok, and_true, true_and, Int.toNat_natCast, Bool.and_eq_true, Bool.or_eq_true, Bool.not_eq_true', Bool.not_eq_false', Bool.not_not, decide_eq_true_eq, decide_eq_false_iff_not, beq_iff_eq, beq_eq_false_iff_ne, ne_eq, Bool.false_eq_true, Bool.true_eq_false, false_implies, forall_const]
    exact ⟨((dec (nodeOk c k) : Bool), m), hs k hk, rfl, rfl⟩
  have loop : ∀ i, i ≤ l.length → ∃ r : Int, (0 ≤ r ↔ ¬ ∀ k ∈ l.drop i, nodeOk c k) ∧ Runs EV X (IFc_2 l (l.length : Int) (i : Int) c m) (.int .i64 r) [.box 97 (encT .n31 c ++ [.map 1]), .map .n3 .n3 m] := by
    refine down l.length (fun i hi hi2 => ⟨-1, ?_, ?_⟩) (fun i hi ih _ => ?_)
    · rw [List.drop_eq_nil_of_le hi]; simp
    · refine runs_by (IFc_2_eq _ _ _ _ _) ?_
      simp only [Tr.ok, nd_ok, and_true, true_and, Int.toNat_natCast, Bool.and_eq_true, Bool.or_eq_true, Bool.not_eq_true', Bool.not_eq_false', Bool.not_not, decide_eq_true_eq, decide_eq_false_iff_not, beq_iff_eq, beq_eq_false_iff_ne, ne_eq, Bool.false_eq_true, Bool.true_eq_false, false_implies, forall_const]
      exact ⟨fun h => by omega, fun _ => trivial⟩
    · obtain ⟨r, hr, hruns⟩ := ih (by omega)
      rw [List.drop_eq_getElem_cons hi]
      have hm := List.getElem_mem hi
      by_cases hx : nodeOk c l[i]
      · refine ⟨r, by simp only [List.mem_cons, forall_eq_or_imp, hx, true_and]; exact hr, runs_by (IFc_2_eq _ _ _ _ _) ?_⟩
        simp only [Tr.ok, nd_ok, and_true, true_and, Int.toNat_natCast, Bool.and_eq_true, Bool.or_eq_true, Bool.not_eq_true', Bool.not_eq_false', Bool.not_not, decide_eq_true_eq, decide_eq_false_iff_not, beq_iff_eq, beq_eq_false_iff_ne, ne_eq, Bool.false_eq_true, Bool.true_eq_false, false_implies, forall_const, getD_at hi]
        refine ⟨fun _ => ⟨by omega, ((!dec (nodeOk c l[i]) : Bool), c, m), c188 _ hm, fun h => ?_, fun h => ?_⟩, fun h => by omega⟩
        · have h : (!dec (nodeOk c l[i])) = true := h
          rw [dec_true hx] at h; cases h
        · rw [wr (by omega) (by omega)]; exact hruns
      · refine ⟨i, by simp only [List.mem_cons, forall_eq_or_imp, hx, false_and, not_false_eq_true, iff_true]; omega, runs_by (IFc_2_eq _ _ _ _ _) ?_⟩
        simp only [Tr.ok, nd_ok, and_true, true_and, Int.toNat_natCast, Bool.and_eq_true, Bool.or_eq_true, Bool.not_eq_true', Bool.not_eq_false', Bool.not_not, decide_eq_true_eq, decide_eq_false_iff_not, beq_iff_eq, beq_eq_false_iff_ne, ne_eq, Bool.false_eq_true, Bool.true_eq_false, false_implies, forall_const, getD_at hi]
        refine ⟨fun _ => ⟨by omega, ((!dec (nodeOk c l[i]) : Bool), c, m), c188 _ hm, fun h => rfl, fun h => ?_⟩, fun h => by omega⟩
        have h : (!dec (nodeOk c l[i])) = false := h
        rw [dec_false hx] at h; cases h
  obtain ⟨r, hr, h⟩ := loop 0 (by omega)
  have h2 : Calld EV X 164 [.sl .n60 l .no, .fn 188 [] [.ptr 0 0]] [.box 97 (encT .n31 c ++ [.map 1]), .map .n3 .n3 m] (.int .i64 r) [.box 97 (encT .n31 c ++ [.map 1]), .map .n3 .n3 m] := calld_run rfl (runs_by (IFc_0_eq l c m) h)
  refine calld_run rfl (runs_by (CFc_0_eq l c m) ?_)
  simp only [Tr.ok, nd_ok, and_true, true_and, Int.toNat_natCast, Bool.and_eq_true, Bool.or_eq_true, Bool.not_eq_true', Bool.not_eq_false', Bool.not_not, decide_eq_true_eq, decide_eq_false_iff_not, beq_iff_eq, beq_eq_false_iff_ne, ne_eq, Bool.false_eq_true, Bool.true_eq_false, false_implies, forall_const]
  refine ⟨((r : Int), c, m), h2, ?_⟩
  rw [← dec_neg, ← dec_congr (by simpa using hr), dec_dec]
  exact ⟨rfl, rfl⟩
theorem call_KNode (c : S31) (oc : okC c) (m : List (T K.n3 × T K.n3)) (hm : Lines c m) : ∀ (e : S60), okE e → Calld EV X 157 [.agg (encT .n31 c ++ [.map 0]), .agg (encT .n60 e)] [.map .n3 .n3 m] (.bool (dec (nodeOk c e))) [.map .n3 .n3 m] := by
  refine indE fun e ih oe => ?_
  have hl := oe.len
  have t5 : (∀ k ∈ e.f4, nodeOk c k) → (¬ (1 ≤ e.f0 ∧ e.f0 ≤ 4) → e.f1 = 0) → ((1 ≤ e.f0 ∧ e.f0 ≤ 4) → e.f4 = []) → (e.f0 = 18 ∨ e.f3.f0 = 0 ∧ e.f3.f1 = []) → Runs EV X (KNode_5 m c e) (.bool (dec (nodeOk c e))) [.map .n3 .n3 m] := by
    intro hk a1 a3 a2
    have eiff : nodeOk c e ↔ (if 1 ≤ e.f0 ∧ e.f0 ≤ 4 then leafOk c e else opOk e) := by
      rw [nodeOk_iff]
      unfold localOk
      by_cases h14 : 1 ≤ e.f0 ∧ e.f0 ≤ 4
      · simp only [if_pos h14]; exact ⟨fun h => h.2.2.2, fun h => ⟨hk, a2, a3 h14, h⟩⟩
      · simp only [if_neg h14]; exact ⟨fun h => h.2.2.2, fun h => ⟨hk, a2, a1 h14, h⟩⟩
    rw [dec_congr eiff]
    refine runs_by (KNode_5_eq _ _ _) ?_
    simp only [Tr.ok, nd_ok, and_true, true_and, Int.toNat_natCast, Bool.and_eq_true, Bool.or_eq_true, Bool.not_eq_true', Bool.not_eq_false', Bool.not_not, decide_eq_true_eq, decide_eq_false_iff_not, beq_iff_eq, beq_eq_false_iff_ne, ne_eq, Bool.false_eq_true, Bool.true_eq_false, false_implies, forall_const]
    have lt := oc.facts
    have hw : IntKind.i64.wrap ((c.f0.length : Int) - 1) = (c.f0.length : Int) - 1 := wr (by omega) (by omega)
    rw [hw]
    refine ⟨fun n1 => ?_, fun n1 => ⟨fun n2 => ?_, fun n2 => ⟨fun n3 => ?_, fun n3 => ⟨fun n4 => ?_, fun n4 => ?_⟩⟩⟩⟩
    · have el : (if 1 ≤ e.f0 ∧ e.f0 ≤ 4 then leafOk c e else opOk e) ↔ unitS e.f2 = true ∧ 0 ≤ e.f1 ∧ e.f1 ≤ 999999999999 ∧ (e.f2 = ([116, 114, 117, 116, 104] : List UInt8) → e.f1 ≤ 1) := by simp [leafOk, n1]
      rw [dec_congr el]
      refine ⟨fun ht => ⟨(unitS e.f2 : Bool), call_CUnit _ oe.unit, fun hu => ⟨(decide (0 ≤ e.f1) && decide (e.f1 ≤ 1) : Bool), call_CFrom _ _ _, lf ?_⟩, fun hu => lff ?_⟩, fun ht => ⟨(unitS e.f2 : Bool), call_CUnit _ oe.unit, fun hu => ⟨(decide (0 ≤ e.f1) && decide (e.f1 ≤ 999999999999) : Bool), call_CFrom _ _ _, lf ?_⟩, fun hu => lff ?_⟩⟩
      · simp only [Bool.and_eq_true, decide_eq_true_eq]
        exact ⟨fun h => ⟨hu, h.1, by omega, fun _ => h.2⟩, fun h => ⟨h.2.1, h.2.2.2 ht⟩⟩
      · intro h
        have hu : unitS e.f2 = false := hu
        rw [h.1] at hu; cases hu
      · simp only [Bool.and_eq_true, decide_eq_true_eq]
        exact ⟨fun h => ⟨hu, h.1, h.2, fun h => absurd h ht⟩, fun h => ⟨h.2.1, h.2.2.1⟩⟩
      · intro h
        have hu : unitS e.f2 = false := hu
        rw [h.1] at hu; cases hu
    · have el : (if 1 ≤ e.f0 ∧ e.f0 ≤ 4 then leafOk c e else opOk e) ↔ 0 ≤ e.f1 ∧ e.f1 < c.f0.length ∧ e.f2 = (c.f0.getD e.f1.toNat d57).f1 := by simp [leafOk, n2]
      rw [dec_congr el]
      refine ⟨(decide (0 ≤ e.f1) && decide (e.f1 ≤ (c.f0.length : Int) - 1) : Bool), call_CFrom _ _ _, fun h => ⟨?_, lf ?_⟩, fun h => lff ?_⟩
      · have h : (decide (0 ≤ e.f1) && decide (e.f1 ≤ (c.f0.length : Int) - 1)) = true := h
        simp at h; omega
      · have h : (decide (0 ≤ e.f1) && decide (e.f1 ≤ (c.f0.length : Int) - 1)) = true := h
        simp only [Bool.and_eq_true, decide_eq_true_eq] at h
        simp only [beq_iff_eq]
        exact ⟨fun h2 => ⟨h.1, by omega, h2⟩, fun h2 => h2.2.2⟩
      · have h : (decide (0 ≤ e.f1) && decide (e.f1 ≤ (c.f0.length : Int) - 1)) = false := h
        simp at h
        intro h2
        have := h h2.1; omega
    · have el : (if 1 ≤ e.f0 ∧ e.f0 ≤ 4 then leafOk c e else opOk e) ↔ ∃ l, lineOf c e.f1 = some l ∧ 0 ≤ l ∧ l < c.f1.length ∧ e.f2 = (c.f1.getD l.toNat d57).f1 := by simp [leafOk, n3]
      rw [dec_congr el]
      have ha := hm.look e.f1
      have hr := hm.rng e.f1
      rw [ha]
      cases hlo : lineOf c e.f1 with
      | none =>
        refine ⟨fun h => (by cases h), fun _ => lff ?_⟩
        rintro ⟨l, h, _⟩; cases h
      | some l =>
        have hr := hr l hlo
        refine ⟨fun _ => ⟨hr, lf ?_⟩, fun h => (by cases h)⟩
        simp only [beq_iff_eq, Option.getD_some, Option.some.injEq, exists_eq_left']
        exact ⟨fun h => ⟨hr.1, hr.2, h⟩, fun h => h.2.2⟩
    · have el : (if 1 ≤ e.f0 ∧ e.f0 ≤ 4 then leafOk c e else opOk e) ↔ 1 ≤ e.f1 ∧ e.f1 ≤ 4 ∧ e.f2 = ([110, 117, 109, 98, 101, 114] : List UInt8) := by simp [leafOk, n4]
      rw [dec_congr el]
      refine ⟨(decide (1 ≤ e.f1) && decide (e.f1 ≤ 4) : Bool), call_CFrom _ _ _, fun h => lf ?_, fun h => lff ?_⟩
      · have h : (decide (1 ≤ e.f1) && decide (e.f1 ≤ 4)) = true := h
        simp only [Bool.and_eq_true, decide_eq_true_eq] at h
        simp only [beq_iff_eq]
        exact ⟨fun h2 => ⟨h.1, h.2, h2⟩, fun h2 => h2.2.2⟩
      · have h : (decide (1 ≤ e.f1) && decide (e.f1 ≤ 4)) = false := h
        simp at h
        intro h2
        have := h h2.1; omega
    · have el : (if 1 ≤ e.f0 ∧ e.f0 ≤ 4 then leafOk c e else opOk e) ↔ opOk e := by rw [if_neg (by omega)]
      rw [dec_congr el]
      exact ⟨(dec (opOk e) : Bool), call_COperands e oe, rfl⟩
  have t3 : ∀ (x0 x1 : Bool), (x0 = true ↔ ¬ (e.f3.f0 = 0 ∧ e.f3.f1 = [])) → (x1 = true ↔ 1 ≤ e.f0 ∧ e.f0 ≤ 4) → Runs EV X (KNode_3 x0 x1 m c e) (.bool (dec (nodeOk c e))) [.map .n3 .n3 m] := by
    intro x0 x1 h0 h1
    refine runs_by (KNode_3_eq _ _ _ _ _) ?_
    simp only [Tr.ok, nd_ok, and_true, true_and, Int.toNat_natCast, Bool.and_eq_true, Bool.or_eq_true, Bool.not_eq_true', Bool.not_eq_false', Bool.not_not, decide_eq_true_eq, decide_eq_false_iff_not, beq_iff_eq, beq_eq_false_iff_ne, ne_eq, Bool.false_eq_true, Bool.true_eq_false, false_implies, forall_const]
    refine ⟨((!dec (∀ k ∈ e.f4, nodeOk c k) : Bool), c, m), call_CFc _ hl c m fun k hk => ih k hk (oe.kid k hk), ?_⟩
    have nok : ∀ {p : Prop}, ¬ p → V.bool (T := T) false = .bool (dec p) ∧ [Ob.map K.n3 K.n3 m] = [Ob.map (T := T) K.n3 K.n3 m] := fun h => ⟨lff h, rfl⟩
    have n18 : x0 = true → ¬ e.f0 = 18 → ¬ nodeOk c e := fun hx h hn => by
      rcases (nodeOk_iff.1 hn).2.1 with h2 | h2
      · exact h h2
      · exact (h0.1 hx) h2
    have n0 : x1 = false → ¬ e.f1 = 0 → ¬ nodeOk c e := fun hx h hn => by
      have := (nodeOk_iff.1 hn).2.2
      rw [if_neg (fun h14 => by rw [h1.2 h14] at hx; cases hx)] at this
      exact h this.1
    have nk : x1 = true → 0 < (e.f4.length : Int) → ¬ nodeOk c e := fun hx h hn => by
      have := (nodeOk_iff.1 hn).2.2
      rw [if_pos (h1.1 hx)] at this
      rw [this.1] at h; simp at h
    have nil : ¬ 0 < (e.f4.length : Int) → e.f4 = [] := fun h => List.eq_nil_of_length_eq_zero (by omega)
    have tab : x0 = false → (e.f0 = 18 ∨ e.f3.f0 = 0 ∧ e.f3.f1 = []) := fun hx => .inr (Classical.byContradiction fun h => by rw [h0.2 h] at hx; cases hx)
    refine ⟨fun hall => ?_, fun hall => ?_⟩
    · have hall : ∀ k ∈ e.f4, nodeOk c k := by
        have hall : (!dec (∀ k ∈ e.f4, nodeOk c k)) = false := hall
        exact dec_iff.1 (by simpa using hall)
      have t := t5 hall
      have key : (e.f0 = 18 ∨ e.f3.f0 = 0 ∧ e.f3.f1 = []) → (x1 = false → (e.f1 = 0 → (x1 = true → (0 < (e.f4.length : Int) → V.bool (T := T) false = .bool (dec (nodeOk c e)) ∧ [Ob.map K.n3 K.n3 m] = [Ob.map (T := T) K.n3 K.n3 m]) ∧ (¬ 0 < (e.f4.length : Int) → Runs EV X (KNode_5 m c e) (.bool (dec (nodeOk c e))) [.map .n3 .n3 m])) ∧ (x1 = false → Runs EV X (KNode_5 m c e) (.bool (dec (nodeOk c e))) [.map .n3 .n3 m])) ∧ (¬ e.f1 = 0 → V.bool (T := T) false = .bool (dec (nodeOk c e)) ∧ [Ob.map K.n3 K.n3 m] = [Ob.map (T := T) K.n3 K.n3 m])) ∧
          (x1 = true → (x1 = true → (0 < (e.f4.length : Int) → V.bool (T := T) false = .bool (dec (nodeOk c e)) ∧ [Ob.map K.n3 K.n3 m] = [Ob.map (T := T) K.n3 K.n3 m]) ∧ (¬ 0 < (e.f4.length : Int) → Runs EV X (KNode_5 m c e) (.bool (dec (nodeOk c e))) [.map .n3 .n3 m])) ∧ (x1 = false → Runs EV X (KNode_5 m c e) (.bool (dec (nodeOk c e))) [.map .n3 .n3 m])) := fun a2 =>
        ⟨fun hx => ⟨fun hz => ⟨fun hy => (by rw [hx] at hy; cases hy), fun _ => t (fun _ => hz) (fun h14 => by rw [h1.2 h14] at hx; cases hx) a2⟩, fun hz => nok (n0 hx hz)⟩,
         fun hx => ⟨fun _ => ⟨fun hp => nok (nk hx hp), fun hp => t (fun h14 => absurd (h1.1 hx) h14) (fun _ => nil hp) a2⟩, fun hy => (by rw [hx] at hy; cases hy)⟩⟩
      refine ⟨fun hx0 => ⟨fun h18 => key (.inl h18), fun h18 => nok (n18 hx0 h18)⟩, fun hx0 => key (tab hx0)⟩
    · refine nok fun hn => ?_
      have hall : (!dec (∀ k ∈ e.f4, nodeOk c k)) = true := hall
      exact dec_not.1 (by simpa using hall) (nodeOk_iff.1 hn).1
  refine calld_run rfl (runs_by (KNode_0_eq c m e) ?_)
  simp only [Tr.ok, nd_ok, and_true, true_and, Int.toNat_natCast, Bool.and_eq_true, Bool.or_eq_true, Bool.not_eq_true', Bool.not_eq_false', Bool.not_not, decide_eq_true_eq, decide_eq_false_iff_not, beq_iff_eq, beq_eq_false_iff_ne, ne_eq, Bool.false_eq_true, Bool.true_eq_false, false_implies, forall_const]
  have nm : ((decide (1 ≤ e.f0) && decide (e.f0 ≤ 4)) = true ↔ 1 ≤ e.f0 ∧ e.f0 ≤ 4) := by simp
  refine ⟨fun h => ⟨(decide (1 ≤ e.f0) && decide (e.f0 ≤ 4) : Bool), call_CFrom _ _ _, t3 _ _ ?_ nm⟩, fun h => ⟨(decide (1 ≤ e.f0) && decide (e.f0 ≤ 4) : Bool), call_CFrom _ _ _, t3 _ _ ?_ nm⟩⟩
  · simp [h]
  · simp [h]
end Go.Proofs.YtnenfgpjedddoaaGreat.AI
