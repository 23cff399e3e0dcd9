/- What the functions of layer 41 compute: the program's and the reference's alike. -/
import Derived.Test.YtpgghakjbghagaaAIT0
import Derived.IntWalk
set_option linter.unusedVariables false
set_option linter.unusedSimpArgs false
namespace Go.Proofs.Ytpgghakjbghagaa.AI
open Go

theorem wr {x : Int} (h1 : -9223372036854775808 ≤ x) (h2 : x ≤ 9223372036854775807) : IntKind.i64.wrap x = x := IntWalk.i64_in x ⟨h1, h2⟩
/-- Downward from the end. -/
theorem down {p : Nat → Prop} (n : Nat) (h0 : ∀ k, n ≤ k → p k) (h1 : ∀ k, k < n → p (k + 1) → p k) (k : Nat) : p k := by
  by_cases hk : n ≤ k
  · exact h0 k hk
  · have : ∀ d k, n - k = d → p k := by
      intro d
      induction d with
      | zero => intro k h; exact h0 k (by omega)
      | succ d ih => intro k h; exact h1 k (by omega) (ih (k + 1) (by omega))
    exact this _ k rfl
theorem getD_at {α : Type} {l : List α} {k : Nat} {d : α} (h : k < l.length) : l.getD k d = l[k] := by simp [List.getD, h]
def inI (x : Int) : Prop := -9223372036854775808 ≤ x ∧ x ≤ 9223372036854775807
abbrev XX := Nat → List (V T) → List (Ob T) → V T → List (Ob T) → Prop
variable {X : XX}

def inR (x : Int) : Bool := decide (-1000000000000 ≤ x) && decide (x ≤ 1000000000000)
theorem inR_iff {x : Int} : inR x = true ↔ -1000000000000 ≤ x ∧ x ≤ 1000000000000 := by simp [inR]

def pickS (c n : Int) : Int := if c < 0 then (-(c + 1)).tmod n else c.tmod n
theorem call_pick {c n : Int} (hc : inI c) (hn : n ≠ 0) : Calld EV X 14 [.int .i64 c, .int .i64 n] [] (.int .i64 (pickS c n)) [] := by
  refine calld_run rfl (runs_by (pick_0_eq c n) ?_)
  simp only [Tr.ok]
  obtain ⟨h1, h2⟩ := hc
  refine ⟨fun h => ⟨by simpa using hn, ?_⟩, fun h => ⟨by simpa using hn, ?_⟩⟩
  · have h : c < 0 := by simpa using h
    rw [wr (x := c + 1) (by omega) (by omega), wr (by omega) (by omega)]
    simp [pickS, h]
  · have h : ¬ c < 0 := by simpa using h
    simp [pickS, h]
theorem call_inRange (l : List Int) (hl : l.length < 1000000000000) : Calld EV X 20 [.sl .n3 l .no] [] (.bool (l.all inR)) [] := by
  have loop : ∀ k, k ≤ l.length → Runs EV X (inRange_2 l (l.length : Int) (k : Int)) (.bool ((l.drop k).all inR)) [] := by
    refine down l.length (fun k hk hk2 => ?_) (fun k hk ih _ => ?_)
    · refine runs_by (inRange_2_eq _ _ _) ?_
      simp only [Tr.ok]
      refine ⟨fun h => ?_, fun _ => ⟨?_, trivial⟩⟩
      · simp at h; omega
      · rw [List.drop_eq_nil_of_le hk]; rfl
    · refine runs_by (inRange_2_eq _ _ _) ?_
      simp only [Tr.ok, Int.toNat_natCast, getD_at hk, true_and]
      rw [List.drop_eq_getElem_cons hk, List.all_cons]
      refine ⟨fun _ => ⟨by simp; omega, fun h1 => ⟨fun h2 => ?_, fun h2 => ?_⟩, fun h1 => ?_⟩, fun h => ?_⟩
      · have : inR l[k] = false := by simp [inR] at *; omega
        simp [this]
      · have : inR l[k] = true := by simp [inR] at *; omega
        rw [this, Bool.true_and, wr (by omega) (by omega)]
        exact ih (by omega)
      · have : inR l[k] = false := by simp [inR] at *; omega
        simp [this]
      · simp at h; omega
  refine calld_run rfl (runs_by (inRange_0_eq l) ?_)
  simp only [Tr.ok]
  exact loop 0 (by omega)
theorem call_inRange1 (x : Int) : Calld EV X 20 [.sl .n3 [x] .no] [] (.bool (inR x)) [] := by
  have := call_inRange (X := X) [x] (by simp)
  simpa using this
theorem call_fits (x : Int) : Calld EV X 26 [.int .i64 x] [] (.bool (inR x)) [] := by
  refine calld_run rfl (runs_by (fits_0_eq x) ?_)
  simp only [Tr.ok, true_and]
  refine ⟨fun h => ?_, fun h => ?_⟩ <;> simp [inR] at * <;> omega
theorem call_Big (x : Int) : Calld EV X 21 [.int .i64 x] [] (.bool (!inR x)) [] := by
  refine calld_run rfl (runs_by (Big_0_eq x) ?_)
  simp only [Tr.ok, true_and]
  refine ⟨fun h => ⟨?_, trivial⟩, fun h => ⟨?_, trivial⟩⟩
  · have : x ≤ 1000000000000 := by simp at h; omega
    simp only [inR, this, decide_true, Bool.and_true, V.bool.injEq]
    rw [← decide_not]
    congr 1
    simp
  · have : ¬ x ≤ 1000000000000 := by simp at h; omega
    simp [inR, this]
theorem t4 (a : Int) : a.tdiv 4 = if 0 ≤ a then a / 4 else -((-a) / 4) := by
  split
  · rename_i h; exact Int.tdiv_eq_ediv_of_nonneg h
  · rename_i h
    have : a.tdiv 4 = -((-a).tdiv 4) := by rw [Int.neg_tdiv, Int.neg_neg]
    rw [this, Int.tdiv_eq_ediv_of_nonneg (by omega)]
theorem m4 (a : Int) : a.tmod 4 = a - 4 * a.tdiv 4 := Int.tmod_def a 4
theorem call_divide {a : Int} (ha : inI a) : Calld EV X 27 [.int .i64 a, .int .i64 4] [] (.tup [.int .i64 (a / 4), .int .i64 (a % 4)]) [] := by
  obtain ⟨h1, h2⟩ := ha
  refine calld_run rfl (runs_by (divide_0_eq a) ?_)
  simp only [Tr.ok, m4]
  have h := t4 a
  split at h
  · rw [h]
    refine ⟨trivial, trivial, fun h => ?_, fun h => ⟨?_, trivial⟩⟩
    · simp at h; omega
    · rw [wr (by omega) (by omega)]
      congr 4 <;> omega
  · rw [h]
    refine ⟨trivial, trivial, fun h => ⟨?_, trivial⟩, fun h => ⟨?_, trivial⟩⟩
    · simp at h
      rw [wr (x := -(-a / 4)) (by omega) (by omega), wr (by omega) (by omega), wr (by omega) (by omega)]
      congr 4 <;> omega
    · simp at h
      rw [wr (by omega) (by omega)]
      congr 4 <;> omega
theorem call_Scale {a : Int} (ha : inR a = true) : Calld EV X 25 [.int .i64 a, .int .i64 1, .int .i64 4, .int .i64 0] [] (.tup [.int .i64 (a / 4), .int .i64 0]) [] := by
  refine calld_run rfl (runs_by (Scale_0_eq a) ?_)
  obtain ⟨h1, h2⟩ := inR_iff.1 ha
  have hq : inR (a / 4) = true := inR_iff.2 ⟨by omega, by omega⟩
  simp only [Tr.ok, true_and]
  refine ⟨inR a, call_fits a, fun h => ⟨(a / 4, a % 4), ?_, inR (a / 4), call_fits _, fun h => ?_, fun h => ⟨rfl, trivial⟩⟩, fun h => ?_⟩
  · rw [Int.mul_one, wr (by omega) (by omega)]
    exact call_divide ⟨by omega, by omega⟩
  · rw [hq] at h; cases h
  · rw [ha] at h; cases h
theorem call_part {a : Int} (ha : inR a = true) : Calld EV X 22 [.int .i64 a] [] (.int .i64 (a / 4)) [] := by
  refine calld_run rfl (runs_by (part_0_eq a) ?_)
  simp only [Tr.ok]
  exact ⟨(a / 4, 0), call_Scale ha, rfl, trivial⟩
def mx (m x : Int) : Int := if x > m then x else m
theorem call_greatest (a : Int) (l : List Int) (hl : l.length < 1000000000000) : Calld EV X 23 [.int .i64 a, .sl .n3 l .no] [] (.int .i64 (l.foldl mx a)) [] := by
  have loop : ∀ k, ∀ a, k ≤ l.length → Runs EV X (greatest_2 a l (l.length : Int) (k : Int)) (.int .i64 ((l.drop k).foldl mx a)) [] := by
    refine down l.length (fun k hk a hk2 => ?_) (fun k hk ih a _ => ?_)
    · refine runs_by (greatest_2_eq _ _ _ _) ?_
      simp only [Tr.ok]
      refine ⟨fun h => ?_, fun _ => ⟨?_, trivial⟩⟩
      · simp at h; omega
      · rw [List.drop_eq_nil_of_le hk]; rfl
    · refine runs_by (greatest_2_eq _ _ _ _) ?_
      simp only [Tr.ok, Int.toNat_natCast, getD_at hk, true_and]
      rw [List.drop_eq_getElem_cons hk, List.foldl_cons]
      refine ⟨fun _ => ⟨by simp; omega, ?_⟩, fun h => ?_⟩
      · rw [wr (by omega) (by omega)]
        exact ih _ (by omega)
      · simp at h; omega
  refine calld_run rfl (runs_by (greatest_0_eq a l) ?_)
  simp only [Tr.ok]
  exact loop 0 a (by omega)
theorem call_Quarter {a : Int} (ha : inI a) : Calld EV X 24 [.int .i64 a] [] (.int .i64 (a / 4)) [] := by
  obtain ⟨h1, h2⟩ := ha
  refine calld_run rfl (runs_by (Quarter_0_eq a) ?_)
  have h := t4 a
  have hw : IntKind.i64.wrap (a.tdiv 4) = a.tdiv 4 := by
    split at h <;> rw [h] <;> exact wr (by omega) (by omega)
  simp only [Tr.ok, true_and, hw]
  have hw4 : IntKind.i64.wrap (a.tdiv 4 * 4) = a.tdiv 4 * 4 := by
    split at h <;> rw [h] <;> exact wr (by omega) (by omega)
  rw [hw4]
  refine ⟨fun h3 => ⟨?_, trivial⟩, fun h3 => ⟨?_, trivial⟩⟩
  · have h3 : a < a.tdiv 4 * 4 := by simpa using h3
    congr 1
    split at h
    · omega
    · rw [wr (by omega) (by omega)]; omega
  · have h3 : ¬ a < a.tdiv 4 * 4 := by simpa using h3
    congr 1
    split at h <;> omega

def payS (due paid net : Int) : Int := max 0 (max (due - paid) (net - net / 4))
def nextS (due paid net : Int) : Int × Int := if (inR due && inR paid && inR net) = true then (if inR (payS due paid net) = true then (payS due paid net, 0) else (0, 3)) else (0, 3)
theorem payS_fold (due paid net : Int) : [due - paid, net - net / 4].foldl mx 0 = payS due paid net := by
  simp only [List.foldl_cons, List.foldl_nil, mx, payS]
  split <;> split <;> omega
theorem call_Next (due paid net : Int) : Calld EV X 17 [.int .i64 due, .int .i64 paid, .int .i64 net] [] (.tup [.int .i64 (nextS due paid net).1, .int .i64 (nextS due paid net).2]) [] := by
  refine calld_run rfl (runs_by (Next_0_eq _ _ _) ?_)
  simp only [Tr.ok]
  refine ⟨[due, paid, net].all inR, call_inRange _ (by simp), fun h => ⟨?_, trivial⟩, fun h => ?_⟩
  · have h : ¬ (inR due && inR paid && inR net) = true := by
      intro h2
      simp only [Bool.and_eq_true] at h2
      simp [h2] at h
    simp [nextS, h]
  · have h : (inR due && inR paid && inR net) = true := by simpa [Bool.and_assoc] using h
    obtain ⟨⟨h1, h2⟩, h3⟩ : (inR due = true ∧ inR paid = true) ∧ inR net = true := by simpa using h
    have h1' := inR_iff.1 h1
    have h2' := inR_iff.1 h2
    have h3' := inR_iff.1 h3
    refine ⟨(net / 4 : Int), call_part h3, payS due paid net, ?_, inR (payS due paid net), ?_, fun h4 => ⟨?_, trivial⟩, fun h4 => ⟨?_, trivial⟩⟩
    · rw [wr (x := due - paid) (by omega) (by omega), wr (x := net - net / 4) (by omega) (by omega), ← payS_fold]
      exact call_greatest _ _ (by simp)
    · exact call_inRange1 _
    · have h4 : ¬ inR (payS due paid net) = true := by simpa using h4
      simp [nextS, h, h4]
    · have h4 : inR (payS due paid net) = true := by simpa using h4
      simp [nextS, h, h4]
theorem call_RNext (due paid net : Int) : Calld EV X 18 [.int .i64 due, .int .i64 paid, .int .i64 net] [] (.tup [.int .i64 (nextS due paid net).1, .int .i64 (nextS due paid net).2]) [] := by
  refine calld_run rfl (runs_by (RNext_0_eq _ _ _) ?_)
  simp only [Tr.ok, true_and]
  have bad : ¬ (inR due && inR paid && inR net) = true → nextS due paid net = (0, 3) := fun h => by simp [nextS, h]
  refine ⟨!inR due, call_Big _, !inR paid, call_Big _, !inR net, call_Big _, fun h1 => ⟨fun h2 => ⟨fun h3 => ⟨?_, trivial⟩, fun h3 => ?_⟩, fun h2 => ⟨?_, trivial⟩⟩, fun h1 => ⟨?_, trivial⟩⟩
  · rw [bad]; simp at h3; simp [h3]
  · have h1 : inR due = true := by simpa using h1
    have h2 : inR paid = true := by simpa using h2
    have h3 : inR net = true := by simpa using h3
    have h1' := inR_iff.1 h1
    have h2' := inR_iff.1 h2
    have h3' := inR_iff.1 h3
    have fin : ∀ p, p = payS due paid net → Calld EV X 21 [.int .i64 p] [] (.bool (!inR p)) [] ∧ (((!inR p) = true → V.tup (T := T) [.int .i64 0, .int .i64 3] = .tup [.int .i64 (nextS due paid net).1, .int .i64 (nextS due paid net).2] ∧ True) ∧ ((!inR p) = false → V.tup (T := T) [.int .i64 p, .int .i64 0] = .tup [.int .i64 (nextS due paid net).1, .int .i64 (nextS due paid net).2] ∧ True)) := fun p hp => by
      refine ⟨call_Big p, fun h => ⟨?_, trivial⟩, fun h => ⟨?_, trivial⟩⟩
      · rw [hp] at h
        have h4 : ¬ inR (payS due paid net) = true := by simpa using h
        simp [nextS, h1, h2, h3, h4]
      · rw [hp] at h
        have h4 : inR (payS due paid net) = true := by simpa using h
        simp [nextS, h1, h2, h3, h4, hp]
    refine ⟨(net / 4 : Int), call_Quarter ⟨by omega, by omega⟩, ?_⟩
    rw [wr (x := due - paid) (by omega) (by omega), wr (x := net - net / 4) (by omega) (by omega)]
    refine ⟨fun h5 => ⟨fun h6 => ⟨_, fin 0 ?_⟩, fun h6 => ⟨_, fin (due - paid) ?_⟩⟩, fun h5 => ⟨fun h6 => ⟨_, fin 0 ?_⟩, fun h6 => ⟨_, fin (net - net / 4) ?_⟩⟩⟩ <;> simp at h5 h6 <;> unfold payS <;> omega
  · rw [bad]; simp at h2; simp [h2]
  · rw [bad]; simp at h1; simp [h1]

/-! ### Fold -/
def foldL : List Int → List Int → Int → Option (List Int)
  | d :: ds, n :: ns, paid => if ((nextS d paid n).2 == 0 && inR (paid + (nextS d paid n).1)) = true then (foldL ds ns (paid + (nextS d paid n).1)).map ((paid + (nextS d paid n).1) :: ·) else none
  | _, _, _ => some []
def foldR (o : Option (List Int)) (pre : List Int) : List Int × Int := match o with
  | some l => (pre ++ l, 0)
  | none => ([], 3)
theorem nextS_range (due paid net : Int) : inR (nextS due paid net).1 = true := by
  unfold nextS
  split
  · split
    · assumption
    · rfl
  · rfl
theorem call_Step {due nets : List Int} {paid : Int} {k : Nat} (h1 : k < due.length) (h2 : k < nets.length) (hp : inR paid = true) (hl : due.length < 1000000000000) :
    Calld EV X 19 [.int .i64 (k : Int), .ptr 0 0, .ptr 1 0, .ptr 2 0] [.box 22 [.sl .n3 due .no], .box 3 [.int .i64 paid], .box 22 [.sl .n3 nets .no]]
      (.bool ((nextS due[k] paid nets[k]).2 == 0 && inR (paid + (nextS due[k] paid nets[k]).1))) [.box 22 [.sl .n3 due .no], .box 3 [.int .i64 (paid + (nextS due[k] paid nets[k]).1)], .box 22 [.sl .n3 nets .no]] := by
  refine calld_run rfl (runs_by (Step_0_eq _ _ _ _) ?_)
  have hr := inR_iff.1 (nextS_range due[k] paid nets[k])
  have hp' := inR_iff.1 hp
  simp only [Tr.ok, Int.toNat_natCast, getD_at h1, getD_at h2, true_and]
  refine ⟨by simp; omega, by simp; omega, nextS due[k] paid nets[k], call_Next _ _ _, ?_⟩
  rw [wr (x := paid + _) (by omega) (by omega)]
  refine ⟨fun h => ⟨inR (paid + (nextS due[k] paid nets[k]).1), ?_, ?_, rfl⟩, fun h => ⟨?_, rfl⟩⟩
  · exact call_inRange1 _
  · rw [h]; rfl
  · rw [h]; rfl
end Go.Proofs.Ytpgghakjbghagaa.AI
