/- The walks of some functions: what they compute. -/
import Derived.Test.YtbdoompjipjdbaaSig5
namespace Go.Abs.Sig
open Go.RowKit Go.Abs
set_option linter.unusedSimpArgs false
set_option linter.unusedVariables false
set_option maxRecDepth 8000
attribute [local irreducible] StCall StYield WPc Weak IterOf Call2

theorem content_cases {c i : Int} (h : content c i = true) : c = 60 ∧ (i = 40 ∨ i = 50 ∨ i = 60 ∨ i = 71) := by
  simp only [content, Bool.and_eq_true, Bool.or_eq_true, decide_eq_true_eq] at h
  omega

theorem contents_ct (G : Nat → Option (List V)) (c i : Int) (H : Heap) : Call2 Go.Proofs.Try.prog G 6 [.int .i64 c, .int .i64 i] H fun v H' => H' = H ∧ v = .bool true := by
  refine Call2.free (int_free (vs := [c, i])) ?_ H
  refine stCall2 Go.Proofs.Try.func6 rfl (by decide) ?_
  conv => whnf
  refine (shown_ct G _).mono fun r0 H0 h => ?_
  obtain ⟨h1, h2⟩ := h
  rw [h1, h2]
  clear h1 h2 r0 H0
  conv => whnf
  refine (content_ct G c i _).mono fun r0 H0 h => ?_
  obtain ⟨h1, h2⟩ := h
  rw [h1, h2]
  clear h1 h2 r0 H0
  conv => whnf
  refine br_intro (fun h0 => ?_) (fun h0 => ?_)
  · conv => whnf
    exact ⟨.im _, rfl⟩
  have hc : content c i = true := by simpa using h0
  clear h0
  obtain ⟨rfl, hi⟩ := content_cases hc
  clear hc
  conv => whnf
  refine (of_ct G 60 i _).mono fun r0 H0 h => ?_
  obtain ⟨h1, h2⟩ := h
  rw [h1, h2]
  clear h1 h2 r0 H0
  have e1 : isAt 60 i = true := by rcases hi with rfl | rfl | rfl | rfl <;> rfl
  have e2 : replies 60 i = [] := by rcases hi with rfl | rfl | rfl | rfl <;> rfl
  have e3 : asks 60 i = 0 ∨ asks 60 i = 70 := by rcases hi with rfl | rfl | rfl | rfl <;> first | exact .inl rfl | exact .inr rfl
  rw [e1]
  conv => whnf
  refine (replies_ct G 60 i _).mono fun r0 H0 h => ?_
  obtain ⟨h1, h2⟩ := h
  rw [h1, h2, e2]
  clear h1 h2 r0 H0
  conv => whnf
  refine (asks_ct G 60 i _).mono fun r0 H0 h => ?_
  obtain ⟨h1, h2⟩ := h
  rw [h1, h2]
  clear h1 h2 r0 H0
  rcases e3 with e3 | e3
  · rw [e3]
    conv => whnf
    exact ⟨.im _, rfl⟩
  · rw [e3]
    conv => whnf
    refine (asks_ct G 60 i _).mono fun r0 H0 h => ?_
    obtain ⟨h1, h2⟩ := h
    rw [h1, h2, e3]
    conv => whnf
    exact ⟨.im _, rfl⟩
end Go.Abs.Sig
