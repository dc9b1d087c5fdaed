/- The walks of some functions: what they compute. -/
import Derived.Test.YtbdoompjipjdbaaSig12
namespace Go.Abs.Sig
open Go.RowKit Go.Abs
set_option linter.unusedSimpArgs false
set_option linter.unusedVariables false
set_option maxRecDepth 8000
attribute [local irreducible] StCall StYield WPc Weak IterOf Call2

def rasks (c i : Int) : Bool :=
  (decide (c = 10) && (decide (i = 10) || decide (i = 20) || decide (i = 30) || decide (i = 40) || decide (i = 50))) ||
  (decide (c = 20) && (decide (i = 10) || decide (i = 20) || decide (i = 40))) ||
  (decide (c = 40) && (decide (i = 10) || decide (i = 20))) ||
  (decide (c = 50) && (decide (i = 10) || decide (i = 20) || decide (i = 30) || decide (i = 40) || decide (i = 50))) ||
  (decide (c = 60) && (decide (i = 10) || decide (i = 20) || decide (i = 30) || decide (i = 70) || decide (i = 110))) ||
  (decide (c = 85) && decide (i = 10)) ||
  (decide (c = 90) && (decide (i = 10) || decide (i = 20) || decide (i = 30)))

theorem rasks_ct (G : Nat → Option (List V)) (c i : Int) (H : Heap) : Call2 Go.Proofs.Try.prog G 27 [.int .i64 c, .int .i64 i] H fun v H' => H' = H ∧ v = .bool (rasks c i) := by
  refine Call2.free (int_free (vs := [c, i])) ?_ H
  refine stCall2 Go.Proofs.Try.func27 rfl (by decide) ?_
  conv => whnf
  iterate 5 (all_goals try (refine br_intro ?_ ?_ <;> intro h <;> conv => whnf))
  iterate 5 (all_goals try (refine br_intro ?_ ?_ <;> intro h <;> conv => whnf))
  iterate 5 (all_goals try (refine br_intro ?_ ?_ <;> intro h <;> conv => whnf))
  all_goals refine ⟨.im _, ?_⟩
  all_goals simp_all [rasks, V.strip, bsel]

def rreplies (c i : Int) : List Int := if rasks c i then (if decide (c = 60) && decide (i = 70) then [71, 72] else [IntKind.i64.wrap (i + 1)]) else []

theorem rreplies_ct (G : Nat → Option (List V)) (c i : Int) (H : Heap) : Call2 Go.Proofs.Try.prog G 19 [.int .i64 c, .int .i64 i] H fun v H' => H' = H ∧ v = .dat 1 (ints (rreplies c i)) .no := by
  refine Call2.free (int_free (vs := [c, i])) ?_ H
  refine Call2.weakR ?_
  refine stCall2 Go.Proofs.Try.func19 rfl (by decide) ?_
  conv => whnf
  refine (rasks_ct G c i _).mono fun r0 H0 h => ?_
  obtain ⟨h1, h2⟩ := h
  rw [h1, h2]
  clear h1 h2 r0 H0
  cases hr : rasks c i
  · have e : rreplies c i = [] := by simp_all [rreplies]
    rw [e]
    conv => whnf
    exact ⟨_, VW.nil _ _ _ _ (.inr (.inl rfl)), .dat _ _ _ (by simp), rfl⟩
  · conv => whnf
    refine br_intro (fun h1 => ?_) (fun h1 => ?_)
    · conv => whnf
      refine br_intro (fun h2 => ?_) (fun h2 => ?_)
      · have e : rreplies c i = [71, 72] := by simp_all [rreplies, bsel]
        rw [e]
        conv => whnf
        exact ⟨_, VW.no 1 (ints [71, 72]) .tight, .dat _ _ _ (by simp), rfl⟩
      · have e : rreplies c i = [IntKind.i64.wrap (i + 1)] := by simp_all [rreplies, bsel]
        rw [e]
        conv => whnf
        exact ⟨_, VW.no 1 (ints [IntKind.i64.wrap (i + 1)]) .tight, .dat _ _ _ (by simp), rfl⟩
    · have e : rreplies c i = [IntKind.i64.wrap (i + 1)] := by simp_all [rreplies, bsel]
      rw [e]
      conv => whnf
      exact ⟨_, VW.no 1 (ints [IntKind.i64.wrap (i + 1)]) .tight, .dat _ _ _ (by simp), rfl⟩

def rAsks (c i : Int) : Int := if decide (c = 60) && decide (i = 72) then 70 else if decide (0 < i) && rasks c (IntKind.i64.wrap (i - 1)) then IntKind.i64.wrap (i - 1) else 0

theorem rAsks_ct (G : Nat → Option (List V)) (c i : Int) (H : Heap) : Call2 Go.Proofs.Try.prog G 22 [.int .i64 c, .int .i64 i] H fun v H' => H' = H ∧ v = .int .i64 (rAsks c i) := by
  refine Call2.free (int_free (vs := [c, i])) ?_ H
  refine stCall2 Go.Proofs.Try.func22 rfl (by decide) ?_
  conv => whnf
  refine br_intro (fun h1 => ?_) (fun h1 => ?_)
  · conv => whnf
    refine br_intro (fun h2 => ?_) (fun h2 => ?_)
    · conv => whnf
      refine ⟨.im _, ?_⟩
      simp_all [rAsks, V.strip, bsel]
    · conv => whnf
      refine br_intro (fun h3 => ?_) (fun h3 => ?_)
      · conv => whnf
        refine (rasks_ct G c _ _).mono fun r0 H0 h => ?_
        obtain ⟨e1, e2⟩ := h
        rw [e1, e2]
        clear e1 e2 r0 H0
        conv => whnf
        refine br_intro (fun h4 => ?_) (fun h4 => ?_)
        · conv => whnf
          refine ⟨.im _, ?_⟩
          simp_all [rAsks, V.strip, bsel]
        · conv => whnf
          refine ⟨.im _, ?_⟩
          simp_all [rAsks, V.strip, bsel]
      · conv => whnf
        refine ⟨.im _, ?_⟩
        simp_all [rAsks, V.strip, bsel]
        intros
        omega
  · conv => whnf
    refine br_intro (fun h3 => ?_) (fun h3 => ?_)
    · conv => whnf
      refine (rasks_ct G c _ _).mono fun r0 H0 h => ?_
      obtain ⟨e1, e2⟩ := h
      rw [e1, e2]
      clear e1 e2 r0 H0
      conv => whnf
      refine br_intro (fun h4 => ?_) (fun h4 => ?_)
      · conv => whnf
        refine ⟨.im _, ?_⟩
        simp_all [rAsks, V.strip, bsel]
      · conv => whnf
        refine ⟨.im _, ?_⟩
        simp_all [rAsks, V.strip, bsel]
    · conv => whnf
      refine ⟨.im _, ?_⟩
      simp_all [rAsks, V.strip, bsel]
      intros
      omega
end Go.Abs.Sig
