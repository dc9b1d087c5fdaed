/- The walks of some functions: what they compute. -/
import Derived.Test.YtbdoompjipjdbaaSig9
import Derived.Test.YtbdoompjipjdbaaSig8
namespace Go.Abs.Sig
open Go.RowKit Go.Abs
set_option linter.unusedSimpArgs false
set_option linter.unusedVariables false
set_option maxRecDepth 8000
attribute [local irreducible] StCall StYield WPc Weak IterOf Call2

theorem rcontent_ct (G : Nat → Option (List V)) (c i : Int) (H : Heap) : Call2 Go.Proofs.Try.prog G 21 [.int .i64 c, .int .i64 i] H fun v H' => H' = H ∧ v = .bool (content c i) := by
  refine Call2.free (int_free (vs := [c, i])) ?_ H
  refine stCall2 Go.Proofs.Try.func21 rfl (by decide) ?_
  conv => whnf
  iterate 5 (all_goals try (refine br_intro ?_ ?_ <;> intro h <;> conv => whnf))
  all_goals refine ⟨.im _, ?_⟩
  all_goals simp_all [content, V.strip, bsel]
end Go.Abs.Sig
