/- Layer 10: whether an expression fits a codex: both sides. -/
import Derived.Test.YtnenfgpjedddoaaGreatAIL10f
set_option linter.unusedVariables false
set_option linter.unusedSimpArgs false
namespace Go.Proofs.YtnenfgpjedddoaaGreat.AI
open Go
variable {X : XX}

theorem lf {b : Bool} {p : Prop} (h : b = true ↔ p) : V.bool (T := T) b = .bool (dec p) := by rw [dec_of h]
theorem lff {p : Prop} (h : ¬ p) : V.bool (T := T) false = .bool (dec p) := by rw [dec_false h]

/-! ### Piecewise functions -/
def pieceAt (l : List S158) (i : Nat) (h : i < l.length) : Prop := l[i].f0 ≤ 1000000000000 ∧ (-1000000 ≤ l[i].f2 ∧ l[i].f2 ≤ 1000000) ∧ (-1000000000000000000 ≤ l[i].f1 ∧ l[i].f1 ≤ 1000000000000000000) ∧ (i = 0 → l[i].f0 = 0) ∧ (0 < i → (l.getD (i - 1) d158).f0 < l[i].f0)
def tabS (f : S24) : Prop := 1 ≤ f.f0 ∧ f.f0 ≤ 1000000 ∧ 1 ≤ f.f1.length ∧ f.f1.length ≤ 64 ∧ ∀ i (h : i < f.f1.length), pieceAt f.f1 i h
theorem call_PWithin (n : Int) {l : Int} (h0 : 0 ≤ l) (h1 : l ≤ 1000000000000000000) : Calld EV X 230 [.int .i64 n, .int .i64 l] [] (.bool (decide (-l ≤ n) && decide (n ≤ l))) [] := by
  refine calld_run rfl (runs_by (PWithin_0_eq n l) ?_)
  simp only [Tr.ok, nd_ok, and_true, true_and, Int.toNat_natCast, Bool.and_eq_true, Bool.or_eq_true, Bool.not_eq_true', Bool.not_eq_false', Bool.not_not, decide_eq_true_eq, decide_eq_false_iff_not, beq_iff_eq, beq_eq_false_iff_ne, ne_eq, Bool.false_eq_true, Bool.true_eq_false, false_implies, forall_const]
  rw [wr (x := 0 - l) (by omega) (by omega)]
  refine ⟨fun h => ?_, fun h => ?_⟩
  · have : -l ≤ n := by omega
    simp [this]
  · have : ¬ -l ≤ n := by omega
    simp [this]
theorem call_FWithin (n : Int) {l : Int} (h0 : 0 ≤ l) (h1 : l ≤ 1000000000000000000) : Calld EV X 190 [.int .i64 n, .int .i64 l] [] (.bool (decide (-l ≤ n) && decide (n ≤ l))) [] := by
  refine calld_run rfl (runs_by (FWithin_0_eq n l) ?_)
  simp only [Tr.ok, nd_ok, and_true, true_and, Int.toNat_natCast, Bool.and_eq_true, Bool.or_eq_true, Bool.not_eq_true', Bool.not_eq_false', Bool.not_not, decide_eq_true_eq, decide_eq_false_iff_not, beq_iff_eq, beq_eq_false_iff_ne, ne_eq, Bool.false_eq_true, Bool.true_eq_false, false_implies, forall_const]
  rw [wr (x := 0 - l) (by omega) (by omega)]
  refine ⟨fun h => ?_, fun h => ?_⟩
  · have : -l ≤ n := by omega
    simp [this]
  · have : ¬ -l ≤ n := by omega
    simp [this]
theorem call_PValid (f : S24) : Calld EV X 213 [.agg (encT .n24 f)] [] (.bool (dec (tabS f))) [] := by
  have loop : 1 ≤ f.f0 → f.f0 ≤ 1000000 → 1 ≤ f.f1.length → f.f1.length ≤ 64 → (f.f1.getD 0 d158).f0 = 0 → ∀ i, i ≤ f.f1.length → (∀ k (hk : k < i) (hkl : k < f.f1.length), pieceAt f.f1 k hkl) →
      Runs EV X (PValid_5 (if i = 0 then -1 else (f.f1.getD (i - 1) d158).f0) f.f1 (f.f1.length : Int) (i : Int)) (.bool (dec (tabS f))) [] := by
    intro b1 b2 b3 b4 b5
    refine down f.f1.length (fun i hi hi2 hok => ?_) (fun i hi ih _ hok => ?_)
    · refine runs_by (PValid_5_eq _ _ _ _) ?_
      simp only [Tr.ok, nd_ok, and_true, true_and, Int.toNat_natCast, Bool.and_eq_true, Bool.or_eq_true, Bool.not_eq_true', Bool.not_eq_false', Bool.not_not, decide_eq_true_eq, decide_eq_false_iff_not, beq_iff_eq, beq_eq_false_iff_ne, ne_eq, Bool.false_eq_true, Bool.true_eq_false, false_implies, forall_const]
      refine ⟨fun h => by omega, fun _ => ?_⟩
      rw [dec_true]
      exact ⟨b1, b2, b3, b4, fun k hk => hok k (by omega) hk⟩
    · refine runs_by (PValid_5_eq _ _ _ _) ?_
      have no : ¬ pieceAt f.f1 i hi → V.bool (T := T) false = .bool (dec (tabS f)) := fun h => lff fun h2 => h (h2.2.2.2.2 i hi)
      have g0 : i = 0 → f.f1[i].f0 = 0 := fun e => by subst e; rw [← b5, getD_at hi]
      simp only [Tr.ok, nd_ok, and_true, true_and, Int.toNat_natCast, Bool.and_eq_true, Bool.or_eq_true, Bool.not_eq_true', Bool.not_eq_false', Bool.not_not, decide_eq_true_eq, decide_eq_false_iff_not, beq_iff_eq, beq_eq_false_iff_ne, ne_eq, Bool.false_eq_true, Bool.true_eq_false, false_implies, forall_const, getD_at hi]
      rw [wr (x := (i : Int) + 1) (by omega) (by omega)]
      refine ⟨fun _ => ⟨by omega, fun h1 => ⟨fun h2 => ⟨(decide (-1000000 ≤ f.f1[i].f2) && decide (f.f1[i].f2 ≤ 1000000) : Bool), call_PWithin _ (by decide) (by decide), fun h3 => ⟨(decide (-1000000000000000000 ≤ f.f1[i].f1) && decide (f.f1[i].f1 ≤ 1000000000000000000) : Bool), call_PWithin _ (by decide) (by decide), fun h4 => no fun h => ?_, fun h4 => ?_⟩, fun h3 => no fun h => ?_⟩, fun h2 => no fun h => ?_⟩, fun h1 => no fun h => ?_⟩, fun h => by omega⟩
      · obtain ⟨_, _, c, _⟩ := h; simp [c] at h4
      · have h3 : (decide (-1000000 ≤ f.f1[i].f2) && decide (f.f1[i].f2 ≤ 1000000)) = true := by simpa using h3
        have h4 : (decide (-1000000000000000000 ≤ f.f1[i].f1) && decide (f.f1[i].f1 ≤ 1000000000000000000)) = true := by simpa using h4
        simp only [Bool.and_eq_true, decide_eq_true_eq] at h3 h4
        have := ih (by omega) fun k hk hkl => by
          by_cases e : k = i
          · subst e
            refine ⟨by omega, h3, h4, g0, fun hp => ?_⟩
            rw [if_neg (by omega)] at h1
            omega
          · exact hok k (by omega) hkl
        rw [if_neg (by omega)] at this
        simp only [Nat.add_sub_cancel, getD_at hi] at this
        exact this
      · obtain ⟨_, c, _⟩ := h; simp [c] at h3
      · have := h.1; omega
      · by_cases e : i = 0
        · rw [if_pos e] at h1
          have := g0 e
          omega
        · rw [if_neg e] at h1
          have := h.2.2.2.2 (by omega)
          omega
  refine calld_run rfl (runs_by (PValid_0_eq f) ?_)
  simp only [Tr.ok, nd_ok, and_true, true_and, Int.toNat_natCast, Bool.and_eq_true, Bool.or_eq_true, Bool.not_eq_true', Bool.not_eq_false', Bool.not_not, decide_eq_true_eq, decide_eq_false_iff_not, beq_iff_eq, beq_eq_false_iff_ne, ne_eq, Bool.false_eq_true, Bool.true_eq_false, false_implies, forall_const]
  refine ⟨fun h1 => ⟨fun h2 => ⟨fun h3 => ⟨fun h4 => ⟨by omega, fun h5 => lff fun h => ?_, fun h5 => ?_⟩, fun h4 => lff fun h => ?_⟩, fun h3 => lff fun h => ?_⟩, fun h2 => lff fun h => ?_⟩, fun h1 => lff fun h => ?_⟩
  · have := (h.2.2.2.2 0 (by omega)).2.2.2.1 rfl
    rw [← getD_at (d := d158)] at this
    exact h5 this
  · exact loop (by omega) (by omega) (by omega) (by omega) h5 0 (by omega) fun k hk => by omega
  · have := h.2.2.2.1; omega
  · have := h.2.2.1; omega
  · have := h.2.1; omega
  · have := h.1; omega
theorem call_FValid (f : S24) : Calld EV X 162 [.agg (encT .n24 f)] [] (.bool (dec (tabS f))) [] := by
  have loop : 1 ≤ f.f0 → f.f0 ≤ 1000000 → 1 ≤ f.f1.length → f.f1.length ≤ 64 → ∀ i, i ≤ f.f1.length → (∀ k (hk : k < i) (hkl : k < f.f1.length), pieceAt f.f1 k hkl) →
      Runs EV X (FValid_4 (i : Int) f) (.bool (dec (tabS f))) [] := by
    intro b1 b2 b3 b4
    refine down f.f1.length (fun i hi hi2 hok => ?_) (fun i hi ih _ hok => ?_)
    · refine runs_by (FValid_4_eq _ _) ?_
      simp only [Tr.ok, nd_ok, and_true, true_and, Int.toNat_natCast, Bool.and_eq_true, Bool.or_eq_true, Bool.not_eq_true', Bool.not_eq_false', Bool.not_not, decide_eq_true_eq, decide_eq_false_iff_not, beq_iff_eq, beq_eq_false_iff_ne, ne_eq, Bool.false_eq_true, Bool.true_eq_false, false_implies, forall_const]
      refine ⟨fun h => by omega, fun _ => ?_⟩
      rw [dec_true]
      exact ⟨b1, b2, b3, b4, fun k hk => hok k (by omega) hk⟩
    · refine runs_by (FValid_4_eq _ _) ?_
      have no : ¬ pieceAt f.f1 i hi → V.bool (T := T) false = .bool (dec (tabS f)) := fun h => lff fun h2 => h (h2.2.2.2.2 i hi)
      simp only [Tr.ok, nd_ok, and_true, true_and, Int.toNat_natCast, Bool.and_eq_true, Bool.or_eq_true, Bool.not_eq_true', Bool.not_eq_false', Bool.not_not, decide_eq_true_eq, decide_eq_false_iff_not, beq_iff_eq, beq_eq_false_iff_ne, ne_eq, Bool.false_eq_true, Bool.true_eq_false, false_implies, forall_const, getD_at hi]
      rw [wr (x := (i : Int) + 1) (by omega) (by omega)]
      have e1 : IntKind.i64.wrap ((i : Int) - 1) = (i : Int) - 1 := wr (by omega) (by omega)
      rw [e1]
      have e2 : ((i : Int) - 1).toNat = i - 1 := by omega
      rw [e2]
      refine ⟨fun _ => ⟨by omega, (decide (-1000000 ≤ f.f1[i].f2) && decide (f.f1[i].f2 ≤ 1000000) : Bool), call_FWithin _ (by decide) (by decide), (decide (-1000000000000000000 ≤ f.f1[i].f1) && decide (f.f1[i].f1 ≤ 1000000000000000000) : Bool), call_FWithin _ (by decide) (by decide), fun h3 => ⟨fun h4 => ⟨fun h2 => ?_, fun h2 => no fun h => ?_⟩, fun h4 => no fun h => ?_⟩, fun h3 => no fun h => ?_⟩, fun h => by omega⟩
      · have h3 : (decide (-1000000 ≤ f.f1[i].f2) && decide (f.f1[i].f2 ≤ 1000000)) = true := by simpa using h3
        have h4 : (decide (-1000000000000000000 ≤ f.f1[i].f1) && decide (f.f1[i].f1 ≤ 1000000000000000000)) = true := by simpa using h4
        simp only [Bool.and_eq_true, decide_eq_true_eq] at h3 h4
        have yes : (i = 0 → f.f1[i].f0 = 0) → (0 < i → (f.f1.getD (i - 1) d158).f0 < f.f1[i].f0) → Runs EV X (FValid_4 ((i : Int) + 1) f) (.bool (dec (tabS f))) [] := fun y1 y2 => ih (by omega) fun k hk hkl => by
          by_cases e : k = i
          · subst e
            exact ⟨by omega, h3, h4, y1, y2⟩
          · exact hok k (by omega) hkl
        refine ⟨fun h5 => ⟨fun h6 => ⟨fun h7 => ⟨by omega, fun h8 => ?_, fun h8 => ?_⟩, fun h7 => ?_⟩, fun h6 => no fun h => ?_⟩, fun h5 => ⟨fun h7 => ⟨by omega, fun h8 => no fun h => ?_, fun h8 => ?_⟩, fun h7 => ?_⟩⟩
        · omega
        · omega
        · exact yes (fun _ => h6) (fun hp => by omega)
        · exact h6 (h.2.2.2.1 (by omega))
        · have := h.2.2.2.2 (by omega); omega
        · exact yes (fun e => by omega) (fun hp => by omega)
        · exact yes (fun e => by omega) (fun hp => by omega)
      · have := h.1; omega
      · obtain ⟨_, _, c, _⟩ := h; simp [c] at h4
      · obtain ⟨_, c, _⟩ := h; simp [c] at h3
  refine calld_run rfl (runs_by (FValid_0_eq f) ?_)
  simp only [Tr.ok, nd_ok, and_true, true_and, Int.toNat_natCast, Bool.and_eq_true, Bool.or_eq_true, Bool.not_eq_true', Bool.not_eq_false', Bool.not_not, decide_eq_true_eq, decide_eq_false_iff_not, beq_iff_eq, beq_eq_false_iff_ne, ne_eq, Bool.false_eq_true, Bool.true_eq_false, false_implies, forall_const]
  refine ⟨fun h1 => ⟨fun h2 => ⟨fun h3 => ⟨fun h4 => lff fun h => ?_, fun h4 => ?_⟩, fun h3 => lff fun h => ?_⟩, fun h2 => lff fun h => ?_⟩, fun h1 => lff fun h => ?_⟩
  · have := h.2.2.2.1; omega
  · exact loop (by omega) (by omega) (by omega) (by omega) 0 (by omega) fun k hk => by omega
  · have := h.2.2.1; omega
  · have := h.2.1; omega
  · have := h.1; omega

/-! ### Operators -/
def k0 (e : S60) : S60 := e.f4.getD 0 d60
def k1 (e : S60) : S60 := e.f4.getD 1 d60
def binOk (op : Int) (u a : List UInt8) (k : S60) : Prop :=
  if op = 6 ∨ op = 7 then u = ([116, 114, 117, 116, 104] : List UInt8) ∧ a = ([116, 114, 117, 116, 104] : List UInt8) ∧ k.f2 = ([116, 114, 117, 116, 104] : List UInt8)
  else if op = 8 then u = ([116, 114, 117, 116, 104] : List UInt8) ∧ a = k.f2
  else if op = 9 ∨ op = 10 then u = ([116, 114, 117, 116, 104] : List UInt8) ∧ a = k.f2 ∧ ¬ a = ([116, 114, 117, 116, 104] : List UInt8)
  else if op = 11 ∨ op = 12 then u = a ∧ a = k.f2 ∧ ¬ a = ([116, 114, 117, 116, 104] : List UInt8)
  else if op = 13 then ¬ a = ([116, 114, 117, 116, 104] : List UInt8) ∧ ¬ k.f2 = ([116, 114, 117, 116, 104] : List UInt8) ∧ (a = ([110, 117, 109, 98, 101, 114] : List UInt8) ∧ u = k.f2 ∨ k.f2 = ([110, 117, 109, 98, 101, 114] : List UInt8) ∧ u = a)
  else if op = 14 then u = a ∧ ¬ a = ([116, 114, 117, 116, 104] : List UInt8) ∧ k.f0 = 1 ∧ k.f2 = ([110, 117, 109, 98, 101, 114] : List UInt8) ∧ 1 ≤ k.f1 ∧ k.f1 ≤ 1000000
  else if op = 15 then a = ([109, 105, 110, 117, 116, 101, 115] : List UInt8) ∧ curS k.f2 = true ∧ u = k.f2
  else False
def opOk (e : S60) : Prop :=
  if e.f0 = 5 then e.f4.length = 1 ∧ e.f2 = ([116, 114, 117, 116, 104] : List UInt8) ∧ (k0 e).f2 = ([116, 114, 117, 116, 104] : List UInt8)
  else if e.f0 = 18 then e.f4.length = 1 ∧ e.f2 = (k0 e).f2 ∧ curS e.f2 = true ∧ tabS e.f3
  else if e.f0 = 16 ∨ e.f0 = 17 then 2 ≤ e.f4.length ∧ (∀ k ∈ e.f4, k.f2 = (k0 e).f2) ∧ ¬ (k0 e).f2 = ([116, 114, 117, 116, 104] : List UInt8) ∧ e.f2 = (k0 e).f2
  else e.f4.length = 2 ∧ binOk e.f0 e.f2 (k0 e).f2 (k1 e)
theorem call_CO1 (x a : S60) : Calld EV X 212 [.agg (encT .n60 x), .ptr 0 0] [.box 60 (encT .n60 a)] (.bool (dec (¬ x.f2 = a.f2))) [.box 60 (encT .n60 a)] := by
  refine calld_run rfl (runs_by (CO1_0_eq x a) ?_)
  simp only [Tr.ok, nd_ok, and_true, true_and, Int.toNat_natCast, Bool.and_eq_true, Bool.or_eq_true, Bool.not_eq_true', Bool.not_eq_false', Bool.not_not, decide_eq_true_eq, decide_eq_false_iff_not, beq_iff_eq, beq_eq_false_iff_ne, ne_eq, Bool.false_eq_true, Bool.true_eq_false, false_implies, forall_const]
  exact lf (by simp)
theorem call_CFd (l : List S60) (hl : l.length < 1000000000000000) (x : S60) : Calld EV X 110 [.sl .n60 l .no, .fn 212 [] [.ptr 0 0]] [.box 60 (encT .n60 x)] (.bool (!dec (∀ k ∈ l, k.f2 = x.f2))) [.box 60 (encT .n60 x)] := by
  have loop : ∀ i, i ≤ l.length → ∃ r : Int, (0 ≤ r ↔ ¬ ∀ k ∈ l.drop i, k.f2 = x.f2) ∧ Runs EV X (IFd_2 l (l.length : Int) (i : Int) x) (.int .i64 r) [.box 60 (encT .n60 x)] := by
    refine down l.length (fun i hi hi2 => ⟨-1, ?_, ?_⟩) (fun i hi ih _ => ?_)
    · rw [List.drop_eq_nil_of_le hi]; simp
    · refine runs_by (IFd_2_eq _ _ _ _) ?_
      simp only [Tr.ok, nd_ok, and_true, true_and, Int.toNat_natCast, Bool.and_eq_true, Bool.or_eq_true, Bool.not_eq_true', Bool.not_eq_false', Bool.not_not, decide_eq_true_eq, decide_eq_false_iff_not, beq_iff_eq, beq_eq_false_iff_ne, ne_eq, Bool.false_eq_true, Bool.true_eq_false, false_implies, forall_const]
      exact ⟨fun h => by omega, fun _ => trivial⟩
    · obtain ⟨r, hr, hruns⟩ := ih (by omega)
      rw [List.drop_eq_getElem_cons hi]
      by_cases hx : l[i].f2 = x.f2
      · refine ⟨r, by simp only [List.mem_cons, forall_eq_or_imp, hx, true_and]; exact hr, runs_by (IFd_2_eq _ _ _ _) ?_⟩
        simp only [Tr.ok, nd_ok, and_true, true_and, Int.toNat_natCast, Bool.and_eq_true, Bool.or_eq_true, Bool.not_eq_true', Bool.not_eq_false', Bool.not_not, decide_eq_true_eq, decide_eq_false_iff_not, beq_iff_eq, beq_eq_false_iff_ne, ne_eq, Bool.false_eq_true, Bool.true_eq_false, false_implies, forall_const, getD_at hi]
        refine ⟨fun _ => ⟨by omega, ((dec (¬ l[i].f2 = x.f2) : Bool), x), call_CO1 _ _, fun h => ?_, fun h => ?_⟩, fun h => by omega⟩
        · exact absurd hx (dec_iff.1 h)
        · rw [wr (by omega) (by omega)]; exact hruns
      · refine ⟨i, by simp only [List.mem_cons, forall_eq_or_imp, hx, false_and, not_false_eq_true, iff_true]; omega, runs_by (IFd_2_eq _ _ _ _) ?_⟩
        simp only [Tr.ok, nd_ok, and_true, true_and, Int.toNat_natCast, Bool.and_eq_true, Bool.or_eq_true, Bool.not_eq_true', Bool.not_eq_false', Bool.not_not, decide_eq_true_eq, decide_eq_false_iff_not, beq_iff_eq, beq_eq_false_iff_ne, ne_eq, Bool.false_eq_true, Bool.true_eq_false, false_implies, forall_const, getD_at hi]
        refine ⟨fun _ => ⟨by omega, ((dec (¬ l[i].f2 = x.f2) : Bool), x), call_CO1 _ _, fun h => rfl, fun h => ?_⟩, fun h => by omega⟩
        exact absurd hx (dec_not.1 h)
  obtain ⟨r, hr, h⟩ := loop 0 (by omega)
  have h2 : Calld EV X 164 [.sl .n60 l .no, .fn 212 [] [.ptr 0 0]] [.box 60 (encT .n60 x)] (.int .i64 r) [.box 60 (encT .n60 x)] := calld_run rfl (runs_by (IFd_0_eq l x) h)
  refine calld_run rfl (runs_by (CFd_0_eq l x) ?_)
  simp only [Tr.ok, nd_ok, and_true, true_and, Int.toNat_natCast, Bool.and_eq_true, Bool.or_eq_true, Bool.not_eq_true', Bool.not_eq_false', Bool.not_not, decide_eq_true_eq, decide_eq_false_iff_not, beq_iff_eq, beq_eq_false_iff_ne, ne_eq, Bool.false_eq_true, Bool.true_eq_false, false_implies, forall_const]
  refine ⟨((r : Int), x), h2, ?_⟩
  rw [← dec_neg, ← dec_congr (by simpa using hr), dec_dec]
  exact ⟨rfl, rfl⟩
theorem call_COperands (e : S60) (oe : okE e) : Calld EV X 189 [.agg (encT .n60 e)] [] (.bool (dec (opOk e))) [] := by
  have hl := oe.len
  have tail : ∀ (x0 x1 x2 x3 : Bool) (b : S60), 1 ≤ e.f4.length → b.f2.length < 1000000000000000 → (k0 e).f2.length < 1000000000000000 → (x0 = true ↔ e.f4.length = 2) → (x1 = true ↔ e.f2 = ([116, 114, 117, 116, 104] : List UInt8)) → (x2 = true ↔ ∀ k ∈ e.f4, k.f2 = (k0 e).f2) → (x3 = true ↔ ¬ (k0 e).f2 = ([116, 114, 117, 116, 104] : List UInt8) ∧ ¬ b.f2 = ([116, 114, 117, 116, 104] : List UInt8)) →
      (e.f4.length = 2 → b = k1 e ∧ ((∀ k ∈ e.f4, k.f2 = (k0 e).f2) ↔ (k0 e).f2 = (k1 e).f2)) → ((∀ k ∈ e.f4, k.f2 = (k0 e).f2) → b.f2 = (k0 e).f2) → Runs EV X (COperands_7 x0 x1 x2 x3 e (k0 e) b) (.bool (dec (opOk e))) [] := by
    intro x0 x1 x2 x3 b hne hb ha h0 h1 h2 h3 h4 h5
    refine runs_by (COperands_7_eq _ _ _ _ _ _ _) ?_
    simp only [Tr.ok, nd_ok, and_true, true_and, Int.toNat_natCast, Bool.and_eq_true, Bool.or_eq_true, Bool.not_eq_true', Bool.not_eq_false', Bool.not_not, decide_eq_true_eq, decide_eq_false_iff_not, beq_iff_eq, beq_eq_false_iff_ne, ne_eq, Bool.false_eq_true, Bool.true_eq_false, false_implies, forall_const]
    refine ⟨fun n5 => ?_, fun n5 => ⟨fun n6 => ?_, fun n6 => ⟨fun n7 => ?_, fun n7 => ⟨fun n8 => ?_, fun n8 => ⟨fun n9 => ?_, fun n9 => ⟨fun n10 => ?_, fun n10 => ⟨fun n11 => ?_, fun n11 => ⟨fun n12 => ?_, fun n12 => ⟨fun n13 => ?_, fun n13 => ⟨fun n14 => ?_, fun n14 => ⟨fun n15 => ?_, fun n15 => ⟨fun n16 => ?_, fun n16 => ⟨fun n17 => ?_, fun n17 => ⟨fun n18 => ?_, fun n18 => ?_⟩⟩⟩⟩⟩⟩⟩⟩⟩⟩⟩⟩⟩⟩
    · have e5 : opOk e ↔ e.f4.length = 1 ∧ e.f2 = ([116, 114, 117, 116, 104] : List UInt8) ∧ (k0 e).f2 = ([116, 114, 117, 116, 104] : List UInt8) := by simp [opOk, n5]
      rw [dec_congr e5]
      refine ⟨fun a0 => ⟨fun a1 => lf ?_, fun a1 => lff ?_⟩, fun a0 => lff ?_⟩ <;> grind
    · have e6 : opOk e ↔ e.f4.length = 2 ∧ e.f2 = ([116, 114, 117, 116, 104] : List UInt8) ∧ (k0 e).f2 = ([116, 114, 117, 116, 104] : List UInt8) ∧ (k1 e).f2 = ([116, 114, 117, 116, 104] : List UInt8) := by simp [opOk, binOk, n6]
      rw [dec_congr e6]
      refine ⟨fun a0 => ⟨fun a1 => ⟨fun a2 => lf ?_, fun a2 => lff ?_⟩, fun a1 => lff ?_⟩, fun a0 => lff ?_⟩ <;> grind
    · have e6 : opOk e ↔ e.f4.length = 2 ∧ e.f2 = ([116, 114, 117, 116, 104] : List UInt8) ∧ (k0 e).f2 = ([116, 114, 117, 116, 104] : List UInt8) ∧ (k1 e).f2 = ([116, 114, 117, 116, 104] : List UInt8) := by simp [opOk, binOk, n7]
      rw [dec_congr e6]
      refine ⟨fun a0 => ⟨fun a1 => ⟨fun a2 => lf ?_, fun a2 => lff ?_⟩, fun a1 => lff ?_⟩, fun a0 => lff ?_⟩ <;> grind
    · have e6 : opOk e ↔ e.f4.length = 2 ∧ e.f2 = ([116, 114, 117, 116, 104] : List UInt8) ∧ (k0 e).f2 = (k1 e).f2 := by simp [opOk, binOk, n8]
      rw [dec_congr e6]
      refine ⟨fun a0 => ⟨fun a1 => lf ?_, fun a1 => lff ?_⟩, fun a0 => lff ?_⟩ <;> grind
    · have e6 : opOk e ↔ e.f4.length = 2 ∧ e.f2 = ([116, 114, 117, 116, 104] : List UInt8) ∧ (k0 e).f2 = (k1 e).f2 ∧ ¬ (k0 e).f2 = ([116, 114, 117, 116, 104] : List UInt8) := by simp [opOk, binOk, n9]
      rw [dec_congr e6]
      refine ⟨fun a0 => ⟨fun a1 => ⟨fun a2 => lf ?_, fun a2 => lff ?_⟩, fun a1 => lff ?_⟩, fun a0 => lff ?_⟩ <;> grind
    · have e6 : opOk e ↔ e.f4.length = 2 ∧ e.f2 = ([116, 114, 117, 116, 104] : List UInt8) ∧ (k0 e).f2 = (k1 e).f2 ∧ ¬ (k0 e).f2 = ([116, 114, 117, 116, 104] : List UInt8) := by simp [opOk, binOk, n10]
      rw [dec_congr e6]
      refine ⟨fun a0 => ⟨fun a1 => ⟨fun a2 => lf ?_, fun a2 => lff ?_⟩, fun a1 => lff ?_⟩, fun a0 => lff ?_⟩ <;> grind
    · have e6 : opOk e ↔ e.f4.length = 2 ∧ e.f2 = (k0 e).f2 ∧ (k0 e).f2 = (k1 e).f2 ∧ ¬ (k0 e).f2 = ([116, 114, 117, 116, 104] : List UInt8) := by simp [opOk, binOk, n11]
      rw [dec_congr e6]
      refine ⟨fun a0 => ⟨fun a1 => ⟨fun a2 => lf ?_, fun a2 => lff ?_⟩, fun a1 => lff ?_⟩, fun a0 => lff ?_⟩ <;> grind
    · have e6 : opOk e ↔ e.f4.length = 2 ∧ e.f2 = (k0 e).f2 ∧ (k0 e).f2 = (k1 e).f2 ∧ ¬ (k0 e).f2 = ([116, 114, 117, 116, 104] : List UInt8) := by simp [opOk, binOk, n12]
      rw [dec_congr e6]
      refine ⟨fun a0 => ⟨fun a1 => ⟨fun a2 => lf ?_, fun a2 => lff ?_⟩, fun a1 => lff ?_⟩, fun a0 => lff ?_⟩ <;> grind
    · have e6 : opOk e ↔ e.f4.length = 2 ∧ ¬ (k0 e).f2 = ([116, 114, 117, 116, 104] : List UInt8) ∧ ¬ (k1 e).f2 = ([116, 114, 117, 116, 104] : List UInt8) ∧ ((k0 e).f2 = ([110, 117, 109, 98, 101, 114] : List UInt8) ∧ e.f2 = (k1 e).f2 ∨ (k1 e).f2 = ([110, 117, 109, 98, 101, 114] : List UInt8) ∧ e.f2 = (k0 e).f2) := by simp [opOk, binOk, n13]
      rw [dec_congr e6]
      refine ⟨fun a0 => ⟨fun a1 => ⟨fun a2 => ⟨fun a3 => ⟨fun a4 => lf ?_, fun a4 => lff ?_⟩, fun a3 => lf ?_⟩, fun a2 => ⟨fun a3 => lf ?_, fun a3 => lff ?_⟩⟩, fun a1 => lff ?_⟩, fun a0 => lff ?_⟩ <;> grind
    · have e6 : opOk e ↔ e.f4.length = 2 ∧ e.f2 = (k0 e).f2 ∧ ¬ (k0 e).f2 = ([116, 114, 117, 116, 104] : List UInt8) ∧ (k1 e).f0 = 1 ∧ (k1 e).f2 = ([110, 117, 109, 98, 101, 114] : List UInt8) ∧ 1 ≤ (k1 e).f1 ∧ (k1 e).f1 ≤ 1000000 := by simp [opOk, binOk, n14]
      rw [dec_congr e6]
      refine ⟨fun a0 => ⟨fun a1 => ⟨fun a2 => ⟨fun a3 => ⟨fun a4 => ⟨(decide (1 ≤ b.f1) && decide (b.f1 ≤ 1000000) : Bool), call_CFrom _ _ _, lf ?_⟩, fun a4 => lff ?_⟩, fun a3 => lff ?_⟩, fun a2 => lff ?_⟩, fun a1 => lff ?_⟩, fun a0 => lff ?_⟩
      · obtain ⟨rfl, _⟩ := h4 (h0.1 a0)
        simp only [Bool.and_eq_true, decide_eq_true_eq]
        grind
      all_goals grind
    · have e6 : opOk e ↔ e.f4.length = 2 ∧ (k0 e).f2 = ([109, 105, 110, 117, 116, 101, 115] : List UInt8) ∧ curS (k1 e).f2 = true ∧ e.f2 = (k1 e).f2 := by simp [opOk, binOk, n15]
      rw [dec_congr e6]
      refine ⟨fun a0 => ⟨fun a1 => ⟨(curS b.f2 : Bool), call_CCur _ hb, fun a2 => lf ?_, fun a2 => lff ?_⟩, fun a1 => lff ?_⟩, fun a0 => lff ?_⟩
      · have a2 : curS b.f2 = true := a2
        grind
      · have a2 : curS b.f2 = false := a2
        grind
      all_goals grind
    · have e6 : opOk e ↔ 2 ≤ e.f4.length ∧ (∀ k ∈ e.f4, k.f2 = (k0 e).f2) ∧ ¬ (k0 e).f2 = ([116, 114, 117, 116, 104] : List UInt8) ∧ e.f2 = (k0 e).f2 := by simp [opOk, n16]
      rw [dec_congr e6]
      refine ⟨fun a0 => ⟨fun a1 => ⟨fun a2 => lf ?_, fun a2 => lff ?_⟩, fun a1 => lff ?_⟩, fun a0 => lff ?_⟩
      · have := h2.1 a1
        have := h3.1 a2
        simp only [beq_iff_eq]
        exact ⟨fun h => ⟨by omega, h2.1 a1, this.1, h⟩, fun h => h.2.2.2⟩
      · intro h
        have := h5 h.2.1
        rw [← Bool.not_eq_true, h3] at a2
        exact a2 ⟨h.2.2.1, by rw [this]; exact h.2.2.1⟩
      · intro h
        rw [← Bool.not_eq_true, h2] at a1
        exact a1 h.2.1
      · intro h; omega
    · have e6 : opOk e ↔ 2 ≤ e.f4.length ∧ (∀ k ∈ e.f4, k.f2 = (k0 e).f2) ∧ ¬ (k0 e).f2 = ([116, 114, 117, 116, 104] : List UInt8) ∧ e.f2 = (k0 e).f2 := by simp [opOk, n17]
      rw [dec_congr e6]
      refine ⟨fun a0 => ⟨fun a1 => ⟨fun a2 => lf ?_, fun a2 => lff ?_⟩, fun a1 => lff ?_⟩, fun a0 => lff ?_⟩
      · have := h2.1 a1
        have := h3.1 a2
        simp only [beq_iff_eq]
        exact ⟨fun h => ⟨by omega, h2.1 a1, this.1, h⟩, fun h => h.2.2.2⟩
      · intro h
        have := h5 h.2.1
        rw [← Bool.not_eq_true, h3] at a2
        exact a2 ⟨h.2.2.1, by rw [this]; exact h.2.2.1⟩
      · intro h
        rw [← Bool.not_eq_true, h2] at a1
        exact a1 h.2.1
      · intro h; omega
    · have e6 : opOk e ↔ e.f4.length = 1 ∧ e.f2 = (k0 e).f2 ∧ curS e.f2 = true ∧ tabS e.f3 := by simp [opOk, n18]
      rw [dec_congr e6]
      refine ⟨fun a0 => ⟨(curS (k0 e).f2 : Bool), call_CCur _ ha, fun a1 => ⟨fun a2 => ⟨(dec (tabS e.f3) : Bool), call_PValid _, ?_⟩, fun a2 => lff ?_⟩, fun a1 => lff ?_⟩, fun a0 => lff ?_⟩
      · have a1 : curS (k0 e).f2 = true := a1
        congr 1
        refine dec_congr ⟨fun h => ⟨by omega, a2, by rw [a2]; exact a1, h⟩, fun h => h.2.2.2⟩
      · exact fun h => a2 h.2.1
      · have a1 : curS (k0 e).f2 = false := a1
        intro h; rw [← h.2.1, h.2.2.1] at a1; cases a1
      · intro h; omega
    · refine lff ?_
      simp [opOk, binOk, *]
  refine calld_run rfl (runs_by (COperands_0_eq e) ?_)
  simp only [Tr.ok, nd_ok, and_true, true_and, Int.toNat_natCast, Bool.and_eq_true, Bool.or_eq_true, Bool.not_eq_true', Bool.not_eq_false', Bool.not_not, decide_eq_true_eq, decide_eq_false_iff_not, beq_iff_eq, beq_eq_false_iff_ne, ne_eq, Bool.false_eq_true, Bool.true_eq_false, false_implies, forall_const]
  refine ⟨fun h => lff ?_, fun h => ?_⟩
  · have h : e.f4.length = 0 := by omega
    simp [opOk, h]
  · have hw : IntKind.i64.wrap ((e.f4.length : Int) - 1) = (e.f4.length : Int) - 1 := wr (by omega) (by omega)
    rw [hw]
    have hn : ((e.f4.length : Int) - 1).toNat = e.f4.length - 1 := by omega
    rw [hn]
    have hlast : e.f4.length - 1 < e.f4.length := by omega
    have h00 : 0 < e.f4.length := by omega
    have hk0 : k0 e ∈ e.f4 := by unfold k0; rw [getD_at h00]; exact List.getElem_mem h00
    have hbm : e.f4.getD (e.f4.length - 1) d60 ∈ e.f4 := by rw [getD_at hlast]; exact List.getElem_mem hlast
    have two : e.f4.length = 2 → e.f4.getD (e.f4.length - 1) d60 = k1 e ∧ ((∀ k ∈ e.f4, k.f2 = (k0 e).f2) ↔ (k0 e).f2 = (k1 e).f2) := fun h2 => by
      refine ⟨by rw [h2]; rfl, ?_⟩
      unfold k0 k1
      match e.f4, h2 with
      | [a, b], _ =>
        constructor
        · intro h; exact (h b (by simp)).symm
        · intro h k hk
          rcases List.mem_cons.1 hk with rfl | hk
          · rfl
          · rw [List.mem_singleton.1 hk]; exact h.symm
    refine ⟨by omega, by omega, ((!dec (∀ k ∈ e.f4, k.f2 = (k0 e).f2) : Bool), k0 e), call_CFd _ hl _, fun h1 => ?_, fun h1 => ?_⟩
    · refine tail _ _ _ _ _ (by omega) (oe.kid _ hbm).unit (oe.kid _ hk0).unit (by simp; omega) (by simp) (by simp [dec_iff]) ?_ two (fun ha => ha _ hbm)
      have h1 : ¬ (k0 e).f2 = ([116, 114, 117, 116, 104] : List UInt8) := h1
      simp [h1]
    · refine tail _ _ _ _ _ (by omega) (oe.kid _ hbm).unit (oe.kid _ hk0).unit (by simp; omega) (by simp) (by simp [dec_iff]) ?_ two (fun ha => ha _ hbm)
      have h1 : (k0 e).f2 = ([116, 114, 117, 116, 104] : List UInt8) := h1
      simp [h1]
end Go.Proofs.YtnenfgpjedddoaaGreat.AI
