/- The walks of some functions: what they compute. -/
import Derived.Test.YtbdoompjipjdbaaSig14
namespace Go.Abs.Sig
open Go.RowKit Go.Abs
set_option linter.unusedSimpArgs false
set_option linter.unusedVariables false
set_option maxRecDepth 8000
attribute [local irreducible] StCall StYield WPc Weak IterOf Call2

theorem br_t {b : Bool} {p q : Prop} (h : b = true) (hp : p) : br b p q := br_intro (fun _ => hp) (fun h' => by rw [h] at h'; cases h')
theorem br_f {b : Bool} {p q : Prop} (h : b = false) (hq : q) : br b p q := br_intro (fun h' => by rw [h] at h'; cases h') (fun _ => hq)
theorem tells_ct (G : Nat → Option (List V)) (c i : Int) (hi0 : -9223372036854775808 ≤ i) (hi1 : i ≤ 9223372036854775807) (H : Heap) : Call2 Go.Proofs.Try.prog G 8 [.int .i64 c, .int .i64 i] H fun v H' => H' = H ∧ v = .bool true := by
  refine Call2.free (int_free (vs := [c, i])) ?_ H
  refine stCall2 Go.Proofs.Try.func8 rfl (by decide) ?_
  conv => whnf
  refine Call2.mono (shown_ct G _) fun r0 H0 h => ?_
  obtain ⟨h1, h2⟩ := h
  rw [h1, h2]
  clear h1 h2 r0 H0
  conv => whnf
  refine Call2.mono (of_ct G c i _) fun r0 H0 h => ?_
  obtain ⟨h1, h2⟩ := h
  rw [h1, h2]
  clear h1 h2 r0 H0
  conv => whnf
  refine Call2.mono (rof_ct G c i _) fun r0 H0 h => ?_
  obtain ⟨h1, h2⟩ := h
  rw [h1, h2]
  clear h1 h2 r0 H0
  conv => whnf
  rw [rof_eq]
  conv => whnf
  refine Call2.mono (replies_ct G c i _) fun r0 H0 h => ?_
  obtain ⟨h1, h2⟩ := h
  rw [h1, h2]
  clear h1 h2 r0 H0
  conv => whnf
  refine Call2.mono (rreplies_ct G c i _) fun r0 H0 h => ?_
  obtain ⟨h1, h2⟩ := h
  rw [h1, h2]
  clear h1 h2 r0 H0
  conv => whnf
  rw [rreplies_eq]
  refine Call2.mono (ints_ct G (replies c i) (Nat.le_trans (replies_len c i) (by decide)) _) fun r0 H0 h => ?_
  obtain ⟨h1, h2⟩ := h
  rw [h1, h2]
  clear h1 h2 r0 H0
  conv => whnf
  refine br_t (by show bsel true (decide _) false = true; simp [bsel]) ?_
  conv => whnf
  refine br_t (by show bsel true (isAt c i == isAt c i) false = true; simp [bsel]) ?_
  conv => whnf
  refine Call2.mono (side_ct G c i _) fun r0 H0 h => ?_
  obtain ⟨h1, h2⟩ := h
  rw [h1, h2]
  clear h1 h2 r0 H0
  conv => whnf
  refine Call2.mono (rsd_ct G c i _) fun r0 H0 h => ?_
  obtain ⟨h1, h2⟩ := h
  rw [h1, h2]
  clear h1 h2 r0 H0
  conv => whnf
  rw [rsd_eq]
  conv => whnf
  refine br_t (by show bsel true (decide _) false = true; simp [bsel]) ?_
  conv => whnf
  refine Call2.mono (content_ct G c i _) fun r0 H0 h => ?_
  obtain ⟨h1, h2⟩ := h
  rw [h1, h2]
  clear h1 h2 r0 H0
  conv => whnf
  refine Call2.mono (rcontent_ct G c i _) fun r0 H0 h => ?_
  obtain ⟨h1, h2⟩ := h
  rw [h1, h2]
  clear h1 h2 r0 H0
  conv => whnf
  refine br_t (by show bsel true (content c i == content c i) false = true; simp [bsel]) ?_
  conv => whnf
  refine Call2.mono (asks_ct G c i _) fun r0 H0 h => ?_
  obtain ⟨h1, h2⟩ := h
  rw [h1, h2]
  clear h1 h2 r0 H0
  conv => whnf
  refine Call2.mono (rAsks_ct G c i _) fun r0 H0 h => ?_
  obtain ⟨h1, h2⟩ := h
  rw [h1, h2]
  clear h1 h2 r0 H0
  conv => whnf
  rw [rAsks_eq c i hi0 hi1]
  conv => whnf
  refine ⟨.im _, ?_⟩
  show V.bool (bsel true (decide _) false) = _
  simp [bsel]
end Go.Abs.Sig
