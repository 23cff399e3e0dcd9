/- Layer 10: the program's names, units and declarations. -/
import Derived.Test.YtnenfgpjedddoaaGreatAIL10e
set_option linter.unusedVariables false
set_option linter.unusedSimpArgs false
namespace Go.Proofs.YtnenfgpjedddoaaGreat.AI
open Go
variable {X : XX}

theorem lookup_same {kt et : K} (hE : ∀ a b : T kt, EV.eqb kt a b = true ↔ a = b) {k : T kt} {v : T et} : ∀ {m : List (T kt × T et)}, lookupT kt et EV (updT kt et EV m k v) k = some v
  | [] => by simp [updT, lookupT, (hE k k).2 rfl]
  | p :: ps => by
    unfold updT
    cases h : EV.eqb kt k p.1 with
    | true => simp [lookupT, (hE k k).2 rfl]
    | false => simp [lookupT, h, lookup_same hE (m := ps)]
theorem lookup_other {kt et : K} (hE : ∀ a b : T kt, EV.eqb kt a b = true ↔ a = b) {k k' : T kt} {v : T et} : ∀ (m : List (T kt × T et)), ¬ k' = k → lookupT kt et EV (updT kt et EV m k v) k' = lookupT kt et EV m k'
  | [], hn => by
    have : EV.eqb kt k' k = false := by
      cases h : EV.eqb kt k' k with
      | true => exact absurd ((hE _ _).1 h) hn
      | false => rfl
    simp [updT, lookupT, this]
  | p :: ps, hn => by
    have hk : EV.eqb kt k' k = false := by
      cases h : EV.eqb kt k' k with
      | true => exact absurd ((hE _ _).1 h) hn
      | false => rfl
    unfold updT
    cases h : EV.eqb kt k p.1 with
    | true =>
      have e := (hE _ _).1 h
      have : EV.eqb kt k' p.1 = false := by rw [← e]; exact hk
      simp [lookupT, hk, this]
    | false =>
      cases h2 : EV.eqb kt k' p.1 with
      | true => simp [lookupT, h2]
      | false => simp [lookupT, h2, lookup_other hE ps hn]
theorem eq9 : ∀ a b : T K.n9, EV.eqb K.n9 a b = true ↔ a = b := fun a b => beq_iff_eq (α := List UInt8)
theorem eq3 : ∀ a b : T K.n3, EV.eqb K.n3 a b = true ↔ a = b := fun a b => beq_iff_eq (α := Int)

theorem call_CFrom (a b c : Int) : Calld EV X 105 [.int .i64 a, .int .i64 b, .int .i64 c] [] (.bool (decide (a ≤ b) && decide (b ≤ c))) [] := by
  refine calld_run rfl (runs_by (CFrom_0_eq a b c) ?_)
  simp only [Tr.ok, nd_ok, and_true, true_and, Int.toNat_natCast, Bool.and_eq_true, Bool.or_eq_true, Bool.not_eq_true', Bool.not_eq_false', Bool.not_not, decide_eq_true_eq, decide_eq_false_iff_not, beq_iff_eq, beq_eq_false_iff_ne, ne_eq, Bool.false_eq_true, Bool.true_eq_false, false_implies, forall_const]
  exact ⟨fun h => by simp [h], fun h => by simp [h]⟩
theorem call_CCur1 (x : Int) : Calld EV X 187 [.int .i32 x] [] (.bool (!upB x)) [] := by
  refine calld_run rfl (runs_by (CCur1_0_eq x) ?_)
  simp only [Tr.ok, nd_ok, and_true, true_and, Int.toNat_natCast, Bool.and_eq_true, Bool.or_eq_true, Bool.not_eq_true', Bool.not_eq_false', Bool.not_not, decide_eq_true_eq, decide_eq_false_iff_not, beq_iff_eq, beq_eq_false_iff_ne, ne_eq, Bool.false_eq_true, Bool.true_eq_false, false_implies, forall_const]
  refine ⟨fun h => ?_, fun h => ?_⟩ <;> (congr 1; rw [Bool.eq_iff_iff]; simp [upB]; omega)
theorem call_QName1 (x : Int) : Calld EV X 182 [.int .i32 x] [] (.bool (!naB x)) [] := by
  refine calld_run rfl (runs_by (QName1_0_eq x) ?_)
  simp only [Tr.ok, nd_ok, and_true, true_and, Int.toNat_natCast, Bool.and_eq_true, Bool.or_eq_true, Bool.not_eq_true', Bool.not_eq_false', Bool.not_not, decide_eq_true_eq, decide_eq_false_iff_not, beq_iff_eq, beq_eq_false_iff_ne, ne_eq, Bool.false_eq_true, Bool.true_eq_false, false_implies, forall_const]
  refine ⟨fun h1 => ⟨fun h2 => ⟨fun h3 => ⟨fun h4 => ?_, fun h4 => ?_⟩, fun h3 => ?_⟩, fun h2 => ?_⟩, fun h1 => ⟨fun h3 => ⟨fun h4 => ?_, fun h4 => ?_⟩, fun h3 => ?_⟩⟩
  all_goals
    congr 1
    rw [Bool.eq_iff_iff]
    simp [naB, loB, diB]
    omega
theorem call_Sif187 (s : List UInt8) (hs : s.length < 1000000000000000) : ∃ r : Int, (0 ≤ r ↔ ∃ x ∈ s, upB x.toNat = false) ∧ Calld EV X 225 [.str s, .fn 187 [] [], .bool true] [] (.int .i64 r) [] := by
  have loop : ∀ i, i ≤ s.length → ∃ r : Int, (0 ≤ r ↔ ∃ x ∈ s.drop i, upB x.toNat = false) ∧ Runs EV X (Sif187_2 true s i) (.int .i64 r) [] := by
    refine down s.length (fun i hi hi2 => ⟨-1, ?_, ?_⟩) (fun i hi ih _ => ?_)
    · rw [List.drop_eq_nil_of_le hi]; simp
    · refine runs_by (Sif187_2_eq _ _ _) ?_
      simp only [Tr.ok, nd_ok, and_true, true_and, Int.toNat_natCast, Bool.and_eq_true, Bool.or_eq_true, Bool.not_eq_true', Bool.not_eq_false', Bool.not_not, decide_eq_true_eq, decide_eq_false_iff_not, beq_iff_eq, beq_eq_false_iff_ne, ne_eq, Bool.false_eq_true, Bool.true_eq_false, false_implies, forall_const]
      exact ⟨fun h => absurd (Nat.le_of_ble_eq_true h) (by omega), fun _ => trivial⟩
    · obtain ⟨r, hr, hruns⟩ := ih (by omega)
      have hble : (i + 1).ble s.length = true := Nat.ble_eq_true_of_le hi
      rw [List.drop_eq_getElem_cons hi]
      cases hu : upB s[i].toNat with
      | true =>
        have hlt : s[i].toNat < 128 := by simp [upB] at hu; omega
        refine ⟨r, by rw [hr]; simp only [List.mem_cons, exists_eq_or_imp, hu, Bool.true_eq_false, false_or], runs_by (Sif187_2_eq _ _ _) ?_⟩
        simp only [Tr.ok, nd_ok, and_true, true_and, Int.toNat_natCast, Bool.and_eq_true, Bool.or_eq_true, Bool.not_eq_true', Bool.not_eq_false', Bool.not_not, decide_eq_true_eq, decide_eq_false_iff_not, beq_iff_eq, beq_eq_false_iff_ne, ne_eq, Bool.false_eq_true, Bool.true_eq_false, false_implies, forall_const]
        rw [dec_low hi hlt]
        refine ⟨fun _ => ⟨(false : Bool), ?_, fun h => ?_, fun h => hruns⟩, fun h => by rw [hble] at h; cases h⟩
        · have := call_CCur1 (X := X) (s[i].toNat : Int)
          rw [hu] at this; exact this
        · exact absurd h (by decide)
      | false =>
        refine ⟨i, by simp only [List.mem_cons, exists_eq_or_imp, hu, true_or, iff_true]; omega, runs_by (Sif187_2_eq _ _ _) ?_⟩
        simp only [Tr.ok, nd_ok, and_true, true_and, Int.toNat_natCast, Bool.and_eq_true, Bool.or_eq_true, Bool.not_eq_true', Bool.not_eq_false', Bool.not_not, decide_eq_true_eq, decide_eq_false_iff_not, beq_iff_eq, beq_eq_false_iff_ne, ne_eq, Bool.false_eq_true, Bool.true_eq_false, false_implies, forall_const]
        refine ⟨fun _ => ⟨(true : Bool), ?_, fun h => trivial, fun h => ?_⟩, fun h => by rw [hble] at h; cases h⟩
        · have := call_CCur1 (X := X) ((Utf8.decode ⟨⟨s⟩⟩ i).1 : Int)
          have e : upB ((Utf8.decode ⟨⟨s⟩⟩ i).1 : Int) = false := by
            by_cases hlt : s[i].toNat < 128
            · rw [dec_low hi hlt]; exact hu
            · have := dec_high hi hlt
              simp [upB]; omega
          rw [e] at this; exact this
        · exact absurd h (by decide)
  obtain ⟨r, hr, h⟩ := loop 0 (by omega)
  refine ⟨r, by simpa using hr, calld_run rfl (runs_by (Sif187_0_eq s) ?_)⟩
  simp only [Tr.ok, nd_ok, and_true, true_and, Int.toNat_natCast, Bool.and_eq_true, Bool.or_eq_true, Bool.not_eq_true', Bool.not_eq_false', Bool.not_not, decide_eq_true_eq, decide_eq_false_iff_not, beq_iff_eq, beq_eq_false_iff_ne, ne_eq, Bool.false_eq_true, Bool.true_eq_false, false_implies, forall_const]
  exact h
theorem call_SCF187 (s : List UInt8) (hs : s.length < 1000000000000000) : Calld EV X 181 [.str s, .fn 187 [] []] [] (.bool (!s.all fun x => upB x.toNat)) [] := by
  obtain ⟨r, hr, h⟩ := call_Sif187 (X := X) s hs
  have h2 : Calld EV X 207 [.str s, .fn 187 [] []] [] (.int .i64 r) [] := by
    refine calld_run rfl (runs_by (SIF187_0_eq s) ?_)
    simp only [Tr.ok, nd_ok, and_true, true_and, Int.toNat_natCast, Bool.and_eq_true, Bool.or_eq_true, Bool.not_eq_true', Bool.not_eq_false', Bool.not_not, decide_eq_true_eq, decide_eq_false_iff_not, beq_iff_eq, beq_eq_false_iff_ne, ne_eq, Bool.false_eq_true, Bool.true_eq_false, false_implies, forall_const]
    exact ⟨(r : Int), h, rfl⟩
  refine calld_run rfl (runs_by (SCF187_0_eq s) ?_)
  simp only [Tr.ok, nd_ok, and_true, true_and, Int.toNat_natCast, Bool.and_eq_true, Bool.or_eq_true, Bool.not_eq_true', Bool.not_eq_false', Bool.not_not, decide_eq_true_eq, decide_eq_false_iff_not, beq_iff_eq, beq_eq_false_iff_ne, ne_eq, Bool.false_eq_true, Bool.true_eq_false, false_implies, forall_const]
  refine ⟨(r : Int), h2, ?_⟩
  congr 1
  cases ha : s.all fun x => upB x.toNat with
  | true =>
    have : ¬ 0 ≤ r := fun h0 => by
      obtain ⟨x, hx, hf⟩ := hr.1 h0
      rw [List.all_eq_true.1 ha x hx] at hf; cases hf
    simp [this]
  | false =>
    have : 0 ≤ r := hr.2 (by
      rw [List.all_eq_false] at ha
      obtain ⟨x, hx, hf⟩ := ha
      exact ⟨x, hx, by simpa using hf⟩)
    simp [this]
theorem call_Sif182 (s : List UInt8) (hs : s.length < 1000000000000000) : ∃ r : Int, (0 ≤ r ↔ ∃ x ∈ s, naB x.toNat = false) ∧ Calld EV X 225 [.str s, .fn 182 [] [], .bool true] [] (.int .i64 r) [] := by
  have loop : ∀ i, i ≤ s.length → ∃ r : Int, (0 ≤ r ↔ ∃ x ∈ s.drop i, naB x.toNat = false) ∧ Runs EV X (Sif182_2 true s i) (.int .i64 r) [] := by
    refine down s.length (fun i hi hi2 => ⟨-1, ?_, ?_⟩) (fun i hi ih _ => ?_)
    · rw [List.drop_eq_nil_of_le hi]; simp
    · refine runs_by (Sif182_2_eq _ _ _) ?_
      simp only [Tr.ok, nd_ok, and_true, true_and, Int.toNat_natCast, Bool.and_eq_true, Bool.or_eq_true, Bool.not_eq_true', Bool.not_eq_false', Bool.not_not, decide_eq_true_eq, decide_eq_false_iff_not, beq_iff_eq, beq_eq_false_iff_ne, ne_eq, Bool.false_eq_true, Bool.true_eq_false, false_implies, forall_const]
      exact ⟨fun h => absurd (Nat.le_of_ble_eq_true h) (by omega), fun _ => trivial⟩
    · obtain ⟨r, hr, hruns⟩ := ih (by omega)
      have hble : (i + 1).ble s.length = true := Nat.ble_eq_true_of_le hi
      rw [List.drop_eq_getElem_cons hi]
      cases hu : naB s[i].toNat with
      | true =>
        have hlt : s[i].toNat < 128 := by simp [naB, loB, diB] at hu; omega
        refine ⟨r, by rw [hr]; simp only [List.mem_cons, exists_eq_or_imp, hu, Bool.true_eq_false, false_or], runs_by (Sif182_2_eq _ _ _) ?_⟩
        simp only [Tr.ok, nd_ok, and_true, true_and, Int.toNat_natCast, Bool.and_eq_true, Bool.or_eq_true, Bool.not_eq_true', Bool.not_eq_false', Bool.not_not, decide_eq_true_eq, decide_eq_false_iff_not, beq_iff_eq, beq_eq_false_iff_ne, ne_eq, Bool.false_eq_true, Bool.true_eq_false, false_implies, forall_const]
        rw [dec_low hi hlt]
        refine ⟨fun _ => ⟨(false : Bool), ?_, fun h => ?_, fun h => hruns⟩, fun h => by rw [hble] at h; cases h⟩
        · have := call_QName1 (X := X) (s[i].toNat : Int)
          rw [hu] at this; exact this
        · exact absurd h (by decide)
      | false =>
        refine ⟨i, by simp only [List.mem_cons, exists_eq_or_imp, hu, true_or, iff_true]; omega, runs_by (Sif182_2_eq _ _ _) ?_⟩
        simp only [Tr.ok, nd_ok, and_true, true_and, Int.toNat_natCast, Bool.and_eq_true, Bool.or_eq_true, Bool.not_eq_true', Bool.not_eq_false', Bool.not_not, decide_eq_true_eq, decide_eq_false_iff_not, beq_iff_eq, beq_eq_false_iff_ne, ne_eq, Bool.false_eq_true, Bool.true_eq_false, false_implies, forall_const]
        refine ⟨fun _ => ⟨(true : Bool), ?_, fun h => trivial, fun h => ?_⟩, fun h => by rw [hble] at h; cases h⟩
        · have := call_QName1 (X := X) ((Utf8.decode ⟨⟨s⟩⟩ i).1 : Int)
          have e : naB ((Utf8.decode ⟨⟨s⟩⟩ i).1 : Int) = false := by
            by_cases hlt : s[i].toNat < 128
            · rw [dec_low hi hlt]; exact hu
            · have := dec_high hi hlt
              simp [naB, loB, diB]; omega
          rw [e] at this; exact this
        · exact absurd h (by decide)
  obtain ⟨r, hr, h⟩ := loop 0 (by omega)
  refine ⟨r, by simpa using hr, calld_run rfl (runs_by (Sif182_0_eq s) ?_)⟩
  simp only [Tr.ok, nd_ok, and_true, true_and, Int.toNat_natCast, Bool.and_eq_true, Bool.or_eq_true, Bool.not_eq_true', Bool.not_eq_false', Bool.not_not, decide_eq_true_eq, decide_eq_false_iff_not, beq_iff_eq, beq_eq_false_iff_ne, ne_eq, Bool.false_eq_true, Bool.true_eq_false, false_implies, forall_const]
  exact h
theorem call_SCF182 (s : List UInt8) (hs : s.length < 1000000000000000) : Calld EV X 181 [.str s, .fn 182 [] []] [] (.bool (!s.all fun x => naB x.toNat)) [] := by
  obtain ⟨r, hr, h⟩ := call_Sif182 (X := X) s hs
  have h2 : Calld EV X 207 [.str s, .fn 182 [] []] [] (.int .i64 r) [] := by
    refine calld_run rfl (runs_by (SIF182_0_eq s) ?_)
    simp only [Tr.ok, nd_ok, and_true, true_and, Int.toNat_natCast, Bool.and_eq_true, Bool.or_eq_true, Bool.not_eq_true', Bool.not_eq_false', Bool.not_not, decide_eq_true_eq, decide_eq_false_iff_not, beq_iff_eq, beq_eq_false_iff_ne, ne_eq, Bool.false_eq_true, Bool.true_eq_false, false_implies, forall_const]
    exact ⟨(r : Int), h, rfl⟩
  refine calld_run rfl (runs_by (SCF182_0_eq s) ?_)
  simp only [Tr.ok, nd_ok, and_true, true_and, Int.toNat_natCast, Bool.and_eq_true, Bool.or_eq_true, Bool.not_eq_true', Bool.not_eq_false', Bool.not_not, decide_eq_true_eq, decide_eq_false_iff_not, beq_iff_eq, beq_eq_false_iff_ne, ne_eq, Bool.false_eq_true, Bool.true_eq_false, false_implies, forall_const]
  refine ⟨(r : Int), h2, ?_⟩
  congr 1
  cases ha : s.all fun x => naB x.toNat with
  | true =>
    have : ¬ 0 ≤ r := fun h0 => by
      obtain ⟨x, hx, hf⟩ := hr.1 h0
      rw [List.all_eq_true.1 ha x hx] at hf; cases hf
    simp [this]
  | false =>
    have : 0 ≤ r := hr.2 (by
      rw [List.all_eq_false] at ha
      obtain ⟨x, hx, hf⟩ := ha
      exact ⟨x, hx, by simpa using hf⟩)
    simp [this]
theorem call_CCur (s : List UInt8) (hs : s.length < 1000000000000000) : Calld EV X 156 [.str s] [] (.bool (curS s)) [] := by
  refine calld_run rfl (runs_by (CCur_0_eq s) ?_)
  simp only [Tr.ok, nd_ok, and_true, true_and, Int.toNat_natCast, Bool.and_eq_true, Bool.or_eq_true, Bool.not_eq_true', Bool.not_eq_false', Bool.not_not, decide_eq_true_eq, decide_eq_false_iff_not, beq_iff_eq, beq_eq_false_iff_ne, ne_eq, Bool.false_eq_true, Bool.true_eq_false, false_implies, forall_const]
  unfold curS
  refine ⟨fun h => ⟨(!s.all fun x => upB x.toNat : Bool), call_SCF187 s hs, ?_⟩, fun h => ?_⟩
  · have h : s.length = 3 := by omega
    simp [h]
  · have h : ¬ s.length = 3 := by omega
    simp [h]
theorem call_CUnit (s : List UInt8) (hs : s.length < 1000000000000000) : Calld EV X 103 [.str s] [] (.bool (unitS s)) [] := by
  refine calld_run rfl (runs_by (CUnit_0_eq s) ?_)
  simp only [Tr.ok, nd_ok, and_true, true_and, Int.toNat_natCast, Bool.and_eq_true, Bool.or_eq_true, Bool.not_eq_true', Bool.not_eq_false', Bool.not_not, decide_eq_true_eq, decide_eq_false_iff_not, beq_iff_eq, beq_eq_false_iff_ne, ne_eq, Bool.false_eq_true, Bool.true_eq_false, false_implies, forall_const]
  unfold unitS
  refine ⟨fun h1 => ⟨fun h2 => ⟨fun h3 => ⟨(curS s : Bool), call_CCur s hs, ?_⟩, fun h3 => ?_⟩, fun h2 => ?_⟩, fun h1 => ?_⟩
  all_goals simp [*]
theorem call_QKey (s : List UInt8) : Calld EV X 180 [.str s] [] (.bool (dec (s ∈ keysS))) [] := by
  refine calld_run rfl (runs_by (QKey_0_eq s) ?_)
  simp only [Tr.ok, nd_ok, and_true, true_and, Int.toNat_natCast, Bool.and_eq_true, Bool.or_eq_true, Bool.not_eq_true', Bool.not_eq_false', Bool.not_not, decide_eq_true_eq, decide_eq_false_iff_not, beq_iff_eq, beq_eq_false_iff_ne, ne_eq, Bool.false_eq_true, Bool.true_eq_false, false_implies, forall_const]
  have yes : ∀ k ∈ keysS, s = k → V.bool (T := T) true = .bool (dec (s ∈ keysS)) := fun k hk e => by rw [e, dec_true hk]
  refine ⟨fun h => yes _ (by decide) h, fun h0 => ?_⟩
  refine ⟨fun h => yes _ (by decide) h, fun h1 => ?_⟩
  refine ⟨fun h => yes _ (by decide) h, fun h2 => ?_⟩
  refine ⟨fun h => yes _ (by decide) h, fun h3 => ?_⟩
  refine ⟨fun h => yes _ (by decide) h, fun h4 => ?_⟩
  refine ⟨fun h => yes _ (by decide) h, fun h5 => ?_⟩
  refine ⟨fun h => yes _ (by decide) h, fun h6 => ?_⟩
  refine ⟨fun h => yes _ (by decide) h, fun h7 => ?_⟩
  refine ⟨fun h => yes _ (by decide) h, fun h8 => ?_⟩
  refine ⟨fun h => yes _ (by decide) h, fun h9 => ?_⟩
  refine ⟨fun h => yes _ (by decide) h, fun h10 => ?_⟩
  refine ⟨fun h => yes _ (by decide) h, fun h11 => ?_⟩
  refine ⟨fun h => yes _ (by decide) h, fun h12 => ?_⟩
  refine ⟨fun h => yes _ (by decide) h, fun h13 => ?_⟩
  refine ⟨fun h => yes _ (by decide) h, fun h14 => ?_⟩
  refine ⟨fun h => yes _ (by decide) h, fun h15 => ?_⟩
  refine ⟨fun h => yes _ (by decide) h, fun h16 => ?_⟩
  refine ⟨fun h => yes _ (by decide) h, fun h17 => ?_⟩
  refine ⟨fun h => yes _ (by decide) h, fun h18 => ?_⟩
  refine ⟨fun h => yes _ (by decide) h, fun h19 => ?_⟩
  refine ⟨fun h => yes _ (by decide) h, fun h20 => ?_⟩
  refine ⟨fun h => yes _ (by decide) h, fun h21 => ?_⟩
  refine ⟨fun h => yes _ (by decide) h, fun h22 => ?_⟩
  refine ⟨fun h => yes _ (by decide) h, fun h23 => ?_⟩
  refine ⟨fun h => yes _ (by decide) h, fun h24 => ?_⟩
  refine ⟨fun h => yes _ (by decide) h, fun h25 => ?_⟩
  refine ⟨fun h => yes _ (by decide) h, fun h26 => ?_⟩
  refine ⟨fun h => yes _ (by decide) h, fun h27 => ?_⟩
  refine ⟨fun h => yes _ (by decide) h, fun h28 => ?_⟩
  refine ⟨fun h => yes _ (by decide) h, fun h29 => ?_⟩
  refine ⟨fun h => yes _ (by decide) h, fun h30 => ?_⟩
  refine ⟨fun h => yes _ (by decide) h, fun h31 => ?_⟩
  refine ⟨fun h => yes _ (by decide) h, fun h32 => ?_⟩
  rw [dec_false]
  unfold keysS
  simp only [List.mem_cons, List.not_mem_nil, or_false, not_or]
  simp only [*, not_false_eq_true, and_self]
theorem call_QName (s : List UInt8) (hs : s.length < 1000000000000000) : Calld EV X 135 [.str s] [] (.bool (nameS s)) [] := by
  refine calld_run rfl (runs_by (QName_0_eq s) ?_)
  simp only [Tr.ok, nd_ok, and_true, true_and, Int.toNat_natCast, Bool.and_eq_true, Bool.or_eq_true, Bool.not_eq_true', Bool.not_eq_false', Bool.not_not, decide_eq_true_eq, decide_eq_false_iff_not, beq_iff_eq, beq_eq_false_iff_ne, ne_eq, Bool.false_eq_true, Bool.true_eq_false, false_implies, forall_const]
  unfold nameS loB
  refine ⟨fun h1 => ⟨fun h2 => ⟨by omega, fun h3 => ⟨by omega, fun h4 => ⟨(dec (s ∈ keysS) : Bool), call_QKey s, fun h5 => ⟨(!s.all fun x => naB x.toNat : Bool), call_SCF182 s hs, ?_⟩, fun h5 => ?_⟩, fun h4 => ?_⟩, fun h3 => ?_⟩, fun h2 => ?_⟩, fun h1 => ?_⟩
  · have h1 : 1 ≤ s.length := by omega
    have h2 : s.length ≤ 16 := by omega
    have h5 : dec (s ∈ keysS) = false := by simpa using h5
    have h3' : 97 ≤ ((s.getD 0 0).toNat : Int) := h3
    have h4' : ((s.getD 0 0).toNat : Int) ≤ 122 := h4
    rw [h5]
    simp only [h1, h2, h3', h4', decide_true, Bool.true_and, Bool.not_false, Bool.not_not]
  · have h5 : dec (s ∈ keysS) = true := by simpa using h5
    rw [h5]; simp
  · have h4' : ¬ ((s.getD 0 0).toNat : Int) ≤ 122 := h4
    simp only [h4', decide_false, Bool.and_false, Bool.false_and]
  · have h3' : ¬ 97 ≤ ((s.getD 0 0).toNat : Int) := h3
    simp only [h3', decide_false, Bool.and_false, Bool.false_and]
  · have h2 : ¬ s.length ≤ 16 := by omega
    simp only [h2, decide_false, Bool.and_false, Bool.false_and]
  · have h1 : ¬ 1 ≤ s.length := by omega
    simp only [h1, decide_false, Bool.and_false, Bool.false_and]
def refN (s : List UInt8) : S27 := ⟨12, s, [], 0, 0, 0, 0, ⟨0, []⟩, [], 0⟩
theorem call_QVRef (s : List UInt8) (hs : s.length < 1000000000000000) : Calld EV X 45 [.agg (encT .n27 (refN s))] [] (.bool (nameS s)) [] := by
  have hc : Calld EV X 80 [.agg (encT .n27 (refN s)), .int .i64 1] [] (.int .i64 1) [] := by
    refine calld_run rfl (runs_by (QCRef_0_eq s) ?_)
    simp only [Tr.ok, nd_ok, and_true, true_and, Int.toNat_natCast, Bool.and_eq_true, Bool.or_eq_true, Bool.not_eq_true', Bool.not_eq_false', Bool.not_not, decide_eq_true_eq, decide_eq_false_iff_not, beq_iff_eq, beq_eq_false_iff_ne, ne_eq, Bool.false_eq_true, Bool.true_eq_false, false_implies, forall_const]
    refine runs_by (QCRef_5_eq _ _ _ _ _) ?_
    simp only [Tr.ok, nd_ok, and_true, true_and, Int.toNat_natCast, Bool.and_eq_true, Bool.or_eq_true, Bool.not_eq_true', Bool.not_eq_false', Bool.not_not, decide_eq_true_eq, decide_eq_false_iff_not, beq_iff_eq, beq_eq_false_iff_ne, ne_eq, Bool.false_eq_true, Bool.true_eq_false, false_implies, forall_const]
    exact ⟨fun h => absurd h (by decide), fun _ => trivial⟩
  have hb : Calld EV X 131 [.agg (encT .n27 (refN s))] [] (.agg (encT .n27 (refN s))) [] := by
    refine calld_run rfl (runs_by (QBRef_0_eq s) ?_)
    simp only [Tr.ok, nd_ok, and_true, true_and, Int.toNat_natCast, Bool.and_eq_true, Bool.or_eq_true, Bool.not_eq_true', Bool.not_eq_false', Bool.not_not, decide_eq_true_eq, decide_eq_false_iff_not, beq_iff_eq, beq_eq_false_iff_ne, ne_eq, Bool.false_eq_true, Bool.true_eq_false, false_implies, forall_const]
    rfl
  have hp : Calld EV X 81 [.agg (encT .n27 (refN s)), .agg (encT .n27 (refN s))] [] (.bool true) [] := by
    refine calld_run rfl (runs_by (QPRef_0_eq s) ?_)
    simp only [Tr.ok, nd_ok, and_true, true_and, Int.toNat_natCast, Bool.and_eq_true, Bool.or_eq_true, Bool.not_eq_true', Bool.not_eq_false', Bool.not_not, decide_eq_true_eq, decide_eq_false_iff_not, beq_iff_eq, beq_eq_false_iff_ne, ne_eq, Bool.false_eq_true, Bool.true_eq_false, false_implies, forall_const]
    refine ⟨refN s, hb, ?_⟩
    simp only [refN, d24, not_true_eq_false, false_implies, and_true, true_implies, forall_const]
    exact ⟨(dec (([] : List S158) = []) : Bool), call_EqPieces [] [] (by decide), by rw [dec_true rfl]⟩
  have he : Calld EV X 84 [.agg (encT .n27 (refN s))] [] (.bool (nameS s)) [] := by
    refine calld_run rfl (runs_by (QERef_0_eq s) ?_)
    simp only [Tr.ok, nd_ok, and_true, true_and, Int.toNat_natCast, Bool.and_eq_true, Bool.or_eq_true, Bool.not_eq_true', Bool.not_eq_false', Bool.not_not, decide_eq_true_eq, decide_eq_false_iff_not, beq_iff_eq, beq_eq_false_iff_ne, ne_eq, Bool.false_eq_true, Bool.true_eq_false, false_implies, forall_const]
    exact ⟨(true : Bool), hp, fun _ => ⟨(nameS s : Bool), call_QName s hs, rfl⟩, fun h => by cases h⟩
  refine calld_run rfl (runs_by (QVRef_0_eq s) ?_)
  simp only [Tr.ok, nd_ok, and_true, true_and, Int.toNat_natCast, Bool.and_eq_true, Bool.or_eq_true, Bool.not_eq_true', Bool.not_eq_false', Bool.not_not, decide_eq_true_eq, decide_eq_false_iff_not, beq_iff_eq, beq_eq_false_iff_ne, ne_eq, Bool.false_eq_true, Bool.true_eq_false, false_implies, forall_const]
  exact ⟨(1 : Int), hc, fun h => absurd h (by decide), fun _ => ⟨(nameS s : Bool), he, rfl⟩⟩
theorem call_CGood1 (x : Int) : Calld EV X 57 [.int .i64 x] [] (.bool (decide (0 ≤ x) && decide (x ≤ 0))) [] := by
  refine calld_run rfl (runs_by (CGood1_0_eq x) ?_)
  simp only [Tr.ok, nd_ok, and_true, true_and, Int.toNat_natCast, Bool.and_eq_true, Bool.or_eq_true, Bool.not_eq_true', Bool.not_eq_false', Bool.not_not, decide_eq_true_eq, decide_eq_false_iff_not, beq_iff_eq, beq_eq_false_iff_ne, ne_eq, Bool.false_eq_true, Bool.true_eq_false, false_implies, forall_const]
  congr 1
  rw [Bool.eq_iff_iff]
  simp
  omega
theorem call_CGood2 (x : Int) : Calld EV X 58 [.int .i64 x] [] (.bool (decide (1 ≤ x) && decide (x ≤ 4))) [] := by
  refine calld_run rfl (runs_by (CGood2_0_eq x) ?_)
  simp only [Tr.ok, nd_ok, and_true, true_and, Int.toNat_natCast, Bool.and_eq_true, Bool.or_eq_true, Bool.not_eq_true', Bool.not_eq_false', Bool.not_not, decide_eq_true_eq, decide_eq_false_iff_not, beq_iff_eq, beq_eq_false_iff_ne, ne_eq, Bool.false_eq_true, Bool.true_eq_false, false_implies, forall_const]
  exact ⟨fun h => by simp [h], fun h => by simp [h]⟩
/-- A declaration is right, given those before it. -/
def declAt (l : List S57) (lo hi : Int) (i : Nat) (h : i < l.length) : Prop := nameS l[i].f0 = true ∧ unitS l[i].f1 = true ∧ lo ≤ l[i].f2 ∧ l[i].f2 ≤ hi ∧ ∀ j (hj : j < i), ¬ l[j].f0 = l[i].f0
def declOk (l : List S57) (lo hi : Int) : Prop := (∀ i (h : i < l.length), declAt l lo hi i h) ∧ l.length ≤ 32
theorem call_CDecl1 (l : List S57) (ol : okDs l) : Calld EV X 56 [.sl .n57 l .no, .fn 57 [] []] [] (.bool (dec (declOk l 0 0))) [] := by
  have hl := ol.len
  have loop : ∀ i, i ≤ l.length → (∀ k (hk : k < i) (hkl : k < l.length), declAt l 0 0 k hkl) → ∀ m : List (T K.n9 × T K.n4), (∀ s, (lookupT K.n9 K.n4 EV m s).getD false = true ↔ ∃ j, ∃ (hj : j < i) (hjl : j < l.length), l[j].f0 = s) →
      Runs EV X (CDecl1_3 l l (l.length : Int) (i : Int) m) (.bool (dec (declOk l 0 0))) [] := by
    refine down l.length (fun i hi hi2 hok m hm => ?_) (fun i hi ih _ hok m hm => ?_)
    · refine runs_by (CDecl1_3_eq _ _ _ _ _) ?_
      simp only [Tr.ok, nd_ok, and_true, true_and, Int.toNat_natCast, Bool.and_eq_true, Bool.or_eq_true, Bool.not_eq_true', Bool.not_eq_false', Bool.not_not, decide_eq_true_eq, decide_eq_false_iff_not, beq_iff_eq, beq_eq_false_iff_ne, ne_eq, Bool.false_eq_true, Bool.true_eq_false, false_implies, forall_const]
      refine ⟨fun h => by omega, fun _ => ?_⟩
      congr 1; symm
      refine dec_of ?_
      unfold declOk
      rw [decide_eq_true_eq]
      exact ⟨fun h => ⟨fun k hk => hok k (by omega) hk, by omega⟩, fun h => by omega⟩
    · refine runs_by (CDecl1_3_eq _ _ _ _ _) ?_
      have no : ¬ declAt l 0 0 i hi → V.bool (T := T) false = .bool (dec (declOk l 0 0)) := fun h => by
        rw [dec_false fun h2 => h (h2.1 i hi)]
      simp only [Tr.ok, nd_ok, and_true, true_and, Int.toNat_natCast, Bool.and_eq_true, Bool.or_eq_true, Bool.not_eq_true', Bool.not_eq_false', Bool.not_not, decide_eq_true_eq, decide_eq_false_iff_not, beq_iff_eq, beq_eq_false_iff_ne, ne_eq, Bool.false_eq_true, Bool.true_eq_false, false_implies, forall_const, getD_at hi]
      rw [wr (by omega) (by omega)]
      refine ⟨fun _ => ⟨by omega, fun h1 => ⟨(unitS l[i].f1 : Bool), call_CUnit _ (ol.unit _ (List.getElem_mem hi)), fun h2 => ⟨(decide (0 ≤ l[i].f2) && decide (l[i].f2 ≤ 0) : Bool), call_CGood1 _, fun h3 => ⟨(nameS l[i].f0 : Bool), call_QVRef _ (ol.name _ (List.getElem_mem hi)), fun h4 => no fun h => ?_, fun h4 => ?_⟩, fun h3 => no fun h => ?_⟩, fun h2 => no fun h => ?_⟩, fun h1 => no fun h => ?_⟩, fun h => by omega⟩
      · have h4 : nameS l[i].f0 = false := by simpa using h4
        rw [h.1] at h4; cases h4
      · have h4 : nameS l[i].f0 = true := by simpa using h4
        have h2 : unitS l[i].f1 = true := by simpa using h2
        have h3 : (decide (0 ≤ l[i].f2) && decide (l[i].f2 ≤ 0)) = true := h3
        refine ih (by omega) (fun k hk hkl => ?_) _ fun s => ?_
        · by_cases e : k = i
          · subst e
            refine ⟨h4, h2, by simp at h3; omega, by simp at h3; omega, fun j hj e => ?_⟩
            rw [(hm l[k].f0).2 ⟨j, hj, by omega, e⟩] at h1
            cases h1
          · exact hok k (by omega) hkl
        · by_cases e : s = l[i].f0
          · subst e
            rw [lookup_same eq9]
            exact ⟨fun _ => ⟨i, by omega, hi, rfl⟩, fun _ => rfl⟩
          · rw [lookup_other eq9 _ e, hm s]
            constructor
            · rintro ⟨j, hj, hjl, h⟩; exact ⟨j, by omega, hjl, h⟩
            · rintro ⟨j, hj, hjl, h⟩
              refine ⟨j, ?_, hjl, h⟩
              by_cases ej : j = i
              · subst ej; exact absurd h.symm e
              · omega
      · have h3 : (decide (0 ≤ l[i].f2) && decide (l[i].f2 ≤ 0)) = false := h3
        obtain ⟨_, _, a, b, _⟩ := h
        simp [a, b] at h3
      · have h2 : unitS l[i].f1 = false := by simpa using h2
        rw [h.2.1] at h2; cases h2
      · have h1 : (lookupT K.n9 K.n4 EV m l[i].f0).getD false = true := by simpa using h1
        obtain ⟨j, hj, hjl, e⟩ := (hm _).1 h1
        exact h.2.2.2.2 j hj e
  refine calld_run rfl (runs_by (CDecl1_0_eq l) ?_)
  simp only [Tr.ok, nd_ok, and_true, true_and, Int.toNat_natCast, Bool.and_eq_true, Bool.or_eq_true, Bool.not_eq_true', Bool.not_eq_false', Bool.not_not, decide_eq_true_eq, decide_eq_false_iff_not, beq_iff_eq, beq_eq_false_iff_ne, ne_eq, Bool.false_eq_true, Bool.true_eq_false, false_implies, forall_const]
  exact loop 0 (by omega) (fun k hk => by omega) [] fun s => by
    constructor
    · intro h; cases h
    · rintro ⟨j, hj, _⟩; omega
theorem call_CDecl2 (l : List S57) (ol : okDs l) : Calld EV X 56 [.sl .n57 l .no, .fn 58 [] []] [] (.bool (dec (declOk l 1 4))) [] := by
  have hl := ol.len
  have loop : ∀ i, i ≤ l.length → (∀ k (hk : k < i) (hkl : k < l.length), declAt l 1 4 k hkl) → ∀ m : List (T K.n9 × T K.n4), (∀ s, (lookupT K.n9 K.n4 EV m s).getD false = true ↔ ∃ j, ∃ (hj : j < i) (hjl : j < l.length), l[j].f0 = s) →
      Runs EV X (CDecl2_3 l l (l.length : Int) (i : Int) m) (.bool (dec (declOk l 1 4))) [] := by
    refine down l.length (fun i hi hi2 hok m hm => ?_) (fun i hi ih _ hok m hm => ?_)
    · refine runs_by (CDecl2_3_eq _ _ _ _ _) ?_
      simp only [Tr.ok, nd_ok, and_true, true_and, Int.toNat_natCast, Bool.and_eq_true, Bool.or_eq_true, Bool.not_eq_true', Bool.not_eq_false', Bool.not_not, decide_eq_true_eq, decide_eq_false_iff_not, beq_iff_eq, beq_eq_false_iff_ne, ne_eq, Bool.false_eq_true, Bool.true_eq_false, false_implies, forall_const]
      refine ⟨fun h => by omega, fun _ => ?_⟩
      congr 1; symm
      refine dec_of ?_
      unfold declOk
      rw [decide_eq_true_eq]
      exact ⟨fun h => ⟨fun k hk => hok k (by omega) hk, by omega⟩, fun h => by omega⟩
    · refine runs_by (CDecl2_3_eq _ _ _ _ _) ?_
      have no : ¬ declAt l 1 4 i hi → V.bool (T := T) false = .bool (dec (declOk l 1 4)) := fun h => by
        rw [dec_false fun h2 => h (h2.1 i hi)]
      simp only [Tr.ok, nd_ok, and_true, true_and, Int.toNat_natCast, Bool.and_eq_true, Bool.or_eq_true, Bool.not_eq_true', Bool.not_eq_false', Bool.not_not, decide_eq_true_eq, decide_eq_false_iff_not, beq_iff_eq, beq_eq_false_iff_ne, ne_eq, Bool.false_eq_true, Bool.true_eq_false, false_implies, forall_const, getD_at hi]
      rw [wr (by omega) (by omega)]
      refine ⟨fun _ => ⟨by omega, fun h1 => ⟨(unitS l[i].f1 : Bool), call_CUnit _ (ol.unit _ (List.getElem_mem hi)), fun h2 => ⟨(decide (1 ≤ l[i].f2) && decide (l[i].f2 ≤ 4) : Bool), call_CGood2 _, fun h3 => ⟨(nameS l[i].f0 : Bool), call_QVRef _ (ol.name _ (List.getElem_mem hi)), fun h4 => no fun h => ?_, fun h4 => ?_⟩, fun h3 => no fun h => ?_⟩, fun h2 => no fun h => ?_⟩, fun h1 => no fun h => ?_⟩, fun h => by omega⟩
      · have h4 : nameS l[i].f0 = false := by simpa using h4
        rw [h.1] at h4; cases h4
      · have h4 : nameS l[i].f0 = true := by simpa using h4
        have h2 : unitS l[i].f1 = true := by simpa using h2
        have h3 : (decide (1 ≤ l[i].f2) && decide (l[i].f2 ≤ 4)) = true := h3
        refine ih (by omega) (fun k hk hkl => ?_) _ fun s => ?_
        · by_cases e : k = i
          · subst e
            refine ⟨h4, h2, by simp at h3; omega, by simp at h3; omega, fun j hj e => ?_⟩
            rw [(hm l[k].f0).2 ⟨j, hj, by omega, e⟩] at h1
            cases h1
          · exact hok k (by omega) hkl
        · by_cases e : s = l[i].f0
          · subst e
            rw [lookup_same eq9]
            exact ⟨fun _ => ⟨i, by omega, hi, rfl⟩, fun _ => rfl⟩
          · rw [lookup_other eq9 _ e, hm s]
            constructor
            · rintro ⟨j, hj, hjl, h⟩; exact ⟨j, by omega, hjl, h⟩
            · rintro ⟨j, hj, hjl, h⟩
              refine ⟨j, ?_, hjl, h⟩
              by_cases ej : j = i
              · subst ej; exact absurd h.symm e
              · omega
      · have h3 : (decide (1 ≤ l[i].f2) && decide (l[i].f2 ≤ 4)) = false := h3
        obtain ⟨_, _, a, b, _⟩ := h
        simp [a, b] at h3
      · have h2 : unitS l[i].f1 = false := by simpa using h2
        rw [h.2.1] at h2; cases h2
      · have h1 : (lookupT K.n9 K.n4 EV m l[i].f0).getD false = true := by simpa using h1
        obtain ⟨j, hj, hjl, e⟩ := (hm _).1 h1
        exact h.2.2.2.2 j hj e
  refine calld_run rfl (runs_by (CDecl2_0_eq l) ?_)
  simp only [Tr.ok, nd_ok, and_true, true_and, Int.toNat_natCast, Bool.and_eq_true, Bool.or_eq_true, Bool.not_eq_true', Bool.not_eq_false', Bool.not_not, decide_eq_true_eq, decide_eq_false_iff_not, beq_iff_eq, beq_eq_false_iff_ne, ne_eq, Bool.false_eq_true, Bool.true_eq_false, false_implies, forall_const]
  exact loop 0 (by omega) (fun k hk => by omega) [] fun s => by
    constructor
    · intro h; cases h
    · rintro ⟨j, hj, _⟩; omega
theorem call_RDecls (l : List S57) (ol : okDs l) (lo hi : Int) : Calld EV X 62 [.sl .n57 l .no, .int .i64 lo, .int .i64 hi] [] (.bool (dec (declOk l lo hi))) [] := by
  have hl := ol.len
  have loop : ∀ i, i ≤ l.length → (∀ k (hk : k < i) (hkl : k < l.length), declAt l lo hi k hkl) → Runs EV X (RDecls_2 l lo hi (i : Int)) (.bool (dec (declOk l lo hi))) [] := by
    refine down l.length (fun i hi2 hi3 hok => ?_) (fun i hi2 ih _ hok => ?_)
    · refine runs_by (RDecls_2_eq _ _ _ _) ?_
      simp only [Tr.ok, nd_ok, and_true, true_and, Int.toNat_natCast, Bool.and_eq_true, Bool.or_eq_true, Bool.not_eq_true', Bool.not_eq_false', Bool.not_not, decide_eq_true_eq, decide_eq_false_iff_not, beq_iff_eq, beq_eq_false_iff_ne, ne_eq, Bool.false_eq_true, Bool.true_eq_false, false_implies, forall_const]
      refine ⟨fun h => by omega, fun _ => ?_⟩
      congr 1; symm
      refine dec_of ?_
      unfold declOk
      rw [decide_eq_true_eq]
      exact ⟨fun h => ⟨fun k hk => hok k (by omega) hk, by omega⟩, fun h => by omega⟩
    · refine runs_by (RDecls_2_eq _ _ _ _) ?_
      have no : ¬ declAt l lo hi i hi2 → V.bool (T := T) false = .bool (dec (declOk l lo hi)) := fun h => by
        rw [dec_false fun h2 => h (h2.1 i hi2)]
      simp only [Tr.ok, nd_ok, and_true, true_and, Int.toNat_natCast, Bool.and_eq_true, Bool.or_eq_true, Bool.not_eq_true', Bool.not_eq_false', Bool.not_not, decide_eq_true_eq, decide_eq_false_iff_not, beq_iff_eq, beq_eq_false_iff_ne, ne_eq, Bool.false_eq_true, Bool.true_eq_false, false_implies, forall_const, getD_at hi2]
      rw [wr (by omega) (by omega)]
      refine ⟨fun _ => ⟨by omega, (nameS l[i].f0 : Bool), call_PName _ (ol.name _ (List.getElem_mem hi2)), fun h1 => ⟨by omega, (unitS l[i].f1 : Bool), call_RUnit _, fun h2 => ⟨by omega, fun h3 => ⟨by omega, fun h4 => ⟨by omega, (idxS (fun d => decide (d.f0 = l[i].f0)) l : Int), call_RDecl _ hl _, fun h5 => no fun h => ?_, fun h5 => ?_⟩, fun h4 => no fun h => ?_⟩, fun h3 => no fun h => ?_⟩, fun h2 => no fun h => ?_⟩, fun h1 => no fun h => ?_⟩, fun h => by omega⟩
      · have : idxS (fun d => decide (d.f0 = l[i].f0)) l = i := idxS_at hi2 (by simp) fun j hj => by simp [h.2.2.2.2 j hj]
        rw [this] at h5; simp at h5
      · have h5 : idxS (fun d => decide (d.f0 = l[i].f0)) l = i := by simpa using h5
        refine ih (by omega) fun k hk hkl => ?_
        by_cases e : k = i
        · subst e
          refine ⟨by simpa using h1, by simpa using h2, by omega, by omega, fun j hj e => ?_⟩
          have : l.findIdx (fun d => decide (d.f0 = l[k].f0)) ≤ j := by
            by_cases hlt : j < l.findIdx (fun d => decide (d.f0 = l[k].f0))
            · have := List.not_of_lt_findIdx hlt
              simp [e] at this
            · omega
          unfold idxS at h5
          split at h5 <;> omega
        · exact hok k (by omega) hkl
      · have := h.2.2.2.1; omega
      · have := h.2.2.1; omega
      · have h2 : unitS l[i].f1 = false := by simpa using h2
        rw [h.2.1] at h2; cases h2
      · have h1 : nameS l[i].f0 = false := by simpa using h1
        rw [h.1] at h1; cases h1
  refine calld_run rfl (runs_by (RDecls_0_eq l lo hi) ?_)
  simp only [Tr.ok, nd_ok, and_true, true_and, Int.toNat_natCast, Bool.and_eq_true, Bool.or_eq_true, Bool.not_eq_true', Bool.not_eq_false', Bool.not_not, decide_eq_true_eq, decide_eq_false_iff_not, beq_iff_eq, beq_eq_false_iff_ne, ne_eq, Bool.false_eq_true, Bool.true_eq_false, false_implies, forall_const]
  exact loop 0 (by omega) fun k hk => by omega
end Go.Proofs.YtnenfgpjedddoaaGreat.AI
