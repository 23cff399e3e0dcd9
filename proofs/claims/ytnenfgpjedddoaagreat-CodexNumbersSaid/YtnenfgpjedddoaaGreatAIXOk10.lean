/- What was taken of the library's functions holds of this program; what a row's data gives. -/
import Derived.Test.YtnenfgpjedddoaaGreatAIX10
import Derived.Test.YtnenfgpjedddoaaGreatAIShf
import Derived.Test.YtnenfgpjedddoaaGreatAIP10
set_option linter.unusedVariables false
set_option linter.unusedSimpArgs false
namespace Go.Proofs.YtnenfgpjedddoaaGreat.AI
open Go

theorem callee_pure {f : Nat} {args : List (V T)} {obs : List (Ob T)} {v : V T} (he : Ent Tryz.prog f)
    (h : ∀ (g : Gh) (w : World) (xs : List Value), Inv EV g obs w → Reps EV g args xs → ∃ y, Calls Tryz.prog f ⟨xs⟩ w (fun e w' => e = .returned y ∧ w' = w) ∧ Rep EV g v y) : Callee Tryz.prog EV f args obs v obs :=
  ⟨he, fun g w xs hi hr => by
    obtain ⟨y, hc, hv⟩ := h g w xs hi hr
    refine hc.mono fun e w' ⟨h1, h2⟩ => ⟨y, g, h1, ?_, hv⟩
    subst h2
    exact ⟨hi, .refl _ _, fun i l h => ⟨l, h, .refl _⟩⟩⟩
theorem ent184 : Ent Tryz.prog 184 := ⟨Tryz.f184, Tryz.func184, by kernel_rfl, by decide⟩
theorem xOk : ∀ f args obs r obs', XV f args obs r obs' → Callee Tryz.prog EV f args obs r obs' := by
  intro f args obs r obs' ⟨hf, ho, s, t, ha, hl, hr⟩
  subst hf; subst ho; subst ha; subst hr
  refine callee_pure ent184 fun g w xs hi hrs => ?_
  cases hrs with
  | cons h1 hs =>
    cases hs with
    | cons h2 hs =>
      cases hs
      obtain rfl := h1.str_inv
      obtain rfl := h2.str_inv
      obtain ⟨m, hm⟩ := hi.ints 0 (by rfl)
      exact ⟨_, Go.Proofs.Tryz.strings_Index ⟨⟨s⟩⟩ ⟨⟨t⟩⟩ m w hl (hi.froz _ _ _ hm), .fc (.int _ _)⟩

theorem dom_int {x : Int} (h : Dom EV (.int .i64 x)) : inI x := by
  cases h with
  | int h =>
    simp [Lit.wf, IntKind.has, IntKind.min, IntKind.max, IntKind.signed, IntKind.bits] at h
    exact ⟨by omega, by omega⟩
theorem dom_len {e : K} {l : List (T e)} {o : Own} (h : Dom EV (.sl e l o)) : l.length * bytesT e ≤ 140737488351232 := by
  cases h with
  | sl hl _ => exact hl
theorem dom_str {s : List UInt8} (h : Dom EV (.str s)) : s.length ≤ 140737488351232 := by
  cases h with
  | str h => exact h
theorem dom_mem {e : K} {l : List (T e)} {o : Own} (h : Dom EV (.sl e l o)) : ∀ x ∈ l, ∀ v ∈ encT e x, Dom EV v := by
  cases h with
  | sl _ h => exact h
theorem dom_E : ∀ e : S60, (∀ v ∈ encT .n60 e, Dom EV v) → okE e := by
  refine indE fun e ih h => ?_
  have h1 : Dom EV (.sl .n60 e.f4 .no) := h _ (by simp [encT])
  have h2 : Dom EV (.sl .n158 e.f3.f1 .no) := h _ (by simp [encT])
  have l1 : e.f4.length * 88 ≤ 140737488351232 := dom_len h1
  have l2 : e.f3.f1.length * 24 ≤ 140737488351232 := dom_len h2
  have l3 : e.f2.length ≤ 140737488351232 := dom_str (h _ (by simp [encT]))
  exact .mk (by omega) (by omega) (fun k hk => ih k hk (dom_mem h1 k hk)) (by omega)
theorem dom_A (a : S62) (h : ∀ v ∈ encT .n62 a, Dom EV v) : okA a := by
  have h1 : Dom EV (.sl .n60 a.f6 .no) := h _ (by simp [encT])
  have h2 : Dom EV (.sl .n3 a.f7 .no) := h _ (by simp [encT])
  have l1 : a.f6.length * 88 ≤ 140737488351232 := dom_len h1
  have l2 : a.f7.length * 8 ≤ 140737488351232 := dom_len h2
  exact ⟨by omega, by omega, fun e he => dom_E e (dom_mem h1 e he), dom_E a.f8 fun v hv => h v (by simp [encT] at hv ⊢; simp [hv]), l1, l2⟩
theorem dom_Ds (l : List S57) {o : Own} (h : Dom EV (.sl .n57 l o)) : okDs l := by
  have l1 : l.length * 40 ≤ 140737488351232 := dom_len h
  refine ⟨by omega, fun d hd => ?_, fun d hd => ?_⟩
  · have := dom_str (dom_mem h d hd (.str d.f0) (by simp [encT])); omega
  · have := dom_str (dom_mem h d hd (.str d.f1) (by simp [encT])); omega
theorem dom_C (c : S31) (h : ∀ v ∈ encT .n31 c, Dom EV v) : okC c := by
  have h1 : Dom EV (.sl .n57 c.f0 .no) := h _ (by simp [encT])
  have h2 : Dom EV (.sl .n57 c.f1 .no) := h _ (by simp [encT])
  have h3 : Dom EV (.sl .n62 c.f2 .no) := h _ (by simp [encT])
  have l1 : c.f0.length * 40 ≤ 140737488351232 := dom_len h1
  have l2 : c.f1.length * 40 ≤ 140737488351232 := dom_len h2
  have l3 : c.f2.length * 184 ≤ 140737488351232 := dom_len h3
  exact ⟨by omega, by omega, by omega, fun a ha => dom_A a (dom_mem h3 a ha), dom_Ds _ h1, dom_Ds _ h2⟩
end Go.Proofs.YtnenfgpjedddoaaGreat.AI
