/- The walks of some functions: what they compute. -/
import Derived.Test.YtbdoompjipjdbaaSig4
namespace Go.Abs.Sig
open Go.RowKit Go.Abs
set_option linter.unusedSimpArgs false
set_option linter.unusedVariables false
set_option maxRecDepth 8000
attribute [local irreducible] StCall StYield WPc Weak IterOf Call2

theorem ints_len' (l : List Int) : (ints l).length = l.length := by simp [ints]

def inS (l : List Int) (j : Nat) : S2 := headS 26 ([.dat 1 (ints l) .no, .dat 1 (ints l) .no, .bad, .bad, .bad, .int .i64 (j : Int)] ++ List.replicate 20 .bad) [] [] none

theorem ints_ct (G : Nat → Option (List V)) (l : List Int) (hlen : l.length ≤ 1000) (H : Heap) : Call2 Go.Proofs.Try.prog G 18 [.dat 1 (ints l) .no, .dat 1 (ints l) .no] H fun v H' => H' = H ∧ v = .bool true := by
  refine Call2.free (fun v hv => by
    simp only [List.mem_cons, List.not_mem_nil, or_false, or_self] at hv
    subst hv
    exact .dat _ _ _ (by simp)) ?_ H
  refine stCall2 Go.Proofs.Try.func18 rfl (by decide) ?_
  conv => whnf
  refine br_intro (fun h => ?_) (fun h => ?_)
  · have h' : decide (((ints l).length : Int) ≠ ((ints l).length : Int)) = true := h
    simp at h'
  conv => whnf
  intro hw
  refine wpc_loop2 (fun m s1 => ∃ j : Nat, j ≤ l.length ∧ m = l.length - j ∧ s1 = inS l j) l.length (inS l 0) ?_ ⟨0, by omega, rfl, rfl⟩ ?_ ?_
  · exact weak2 hw rfl ⟨.dat _ _ _, .dat _ _ _, .im _, trivial⟩ (.nil _) (fun id hid => by cases hid) rfl (fun id hid => by cases hid)
  · rintro m s1 ⟨j, hj, rfl, rfl⟩
    exact ⟨⟨Nat.le_refl 26, fun x hx => by cases hx⟩, rfl, Nat.le_refl 0, rfl⟩
  · rintro m s1 ⟨j, hj, rfl, rfl⟩
    conv => whnf
    refine br_intro (fun hlt => ?_) (fun hge => ?_)
    · have hlt' : decide ((j : Int) < ((ints l).length : Int)) = true := hlt
      rw [decide_eq_true_eq, ints_len'] at hlt'
      have hjl : j < l.length := by omega
      obtain ⟨x, hx⟩ : ∃ x, l[j]? = some x := ⟨l[j], List.getElem?_eq_getElem hjl⟩
      conv => whnf
      intro hw2
      refine wpc_draw2 9 (by rfl) (by decide) (by decide) hw2 ?_
      conv => whnf
      have hget : (ints l)[Int.toNat (j : Int)]? = some [.int .i64 x] := by
        show (ints l)[j]? = _
        unfold ints
        rw [List.getElem?_map, hx]
        rfl
      refine grd_intro (by show (true && true && decide ((0 : Int) ≤ (j : Int))) = true; simp) ?_
      rw [hget]
      conv => whnf
      refine grd_intro (by show (true && true && decide ((0 : Int) ≤ (j : Int))) = true; simp) ?_
      rw [hget]
      conv => whnf
      refine br_intro (fun he => ?_) (fun he => ?_)
      · have he' : decide (x ≠ x) = true := he
        simp at he'
      conv => whnf
      intro hw3
      have hw26 : IntKind.i64.wrap ((j : Int) + 1) = ((j + 1 : Nat) : Int) := by rw [wrap_i64 (by omega) (by omega)]; rfl
      refine ⟨l.length - (j + 1), inS l (j + 1), by omega, ?_, j + 1, by omega, rfl, rfl⟩
      exact weak2 hw3 rfl ⟨.dat _ _ _, .dat _ _ _, .int hw26, trivial⟩ (.nil _) (fun id hid => by cases hid) rfl (fun id hid => by cases hid)
    · conv => whnf
      exact ⟨.im _, rfl⟩
end Go.Abs.Sig
