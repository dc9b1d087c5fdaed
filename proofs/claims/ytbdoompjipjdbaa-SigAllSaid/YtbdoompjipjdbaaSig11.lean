/- The walks of some functions: what they compute. -/
import Derived.Test.YtbdoompjipjdbaaSig10
namespace Go.Abs.Sig
open Go.RowKit Go.Abs
set_option linter.unusedSimpArgs false
set_option linter.unusedVariables false
set_option maxRecDepth 8000
attribute [local irreducible] StCall StYield WPc Weak IterOf Call2

def pair (r : Row') : List V := [.int .i64 r.1, .int .i64 r.2.1]
def pairsTo (i : Nat) : List (List V) := (tab.take i).map pair

theorem all_ct0 (G : Nat → Option (List V)) : Call2 Go.Proofs.Try.prog G 12 [] [] fun v H' => v = .dat 2 (tab.map pair) .no := by
  refine stCall2 Go.Proofs.Try.func12 rfl (by decide) ?_
  conv => whnf
  refine (methods_ct G _).mono fun r0 H0 h => ?_
  obtain ⟨h1, h2⟩ := h
  rw [h1, h2]
  clear h1 h2 r0 H0
  conv => whnf
  intro hw
  refine WPc.weak (σ0 := (headS 11 [.bad, .ptr 0 0, .bad, .fn (.func 29) [] [], .bad, .bad, .bad, .bad, .bad, .bad, .bad] [some (.cells 27 [.dat 2 [] (.cls 9)])] [] none).st) ?_ (Nat.le_refl 1) ?_
  · refine weak2 hw rfl ⟨.ptr 0 0 (by decide), .free (.fn _ _ _ (fun v h => by cases h) (fun v h => by cases h)), trivial⟩ (.cons (.cells _ _ _ (.cons (.nil _ _ _ _ (.inl rfl)) .nil)) (.nil _)) (fun id hid => by cases hid) rfl (fun id hid => by cases hid)
  have hTl : ∀ x ∈ (tab.map fun r => [V.agg (rcells r)]), x.length = 1 := fun x hx => by
    obtain ⟨r, _, rfl⟩ := List.mem_map.1 hx
    rfl
  refine wpc_rangeIter2 (methods1_ct G) (Nat.le_refl 11) rfl rfl fnOk29 (fun i H' => H' = [some (.cells 27 [.dat 2 (pairsTo i) (.cls 9)])]) ?_ ?_ ?_ hTl ?_ ?_
  · rfl
  · rintro i H' rfl; rfl
  · rintro i H' _; trivial
  · rintro i x H' hx rfl hl hs'
    rw [List.getElem?_map] at hx
    obtain ⟨r, hr, rfl⟩ := Option.map_eq_some_iff.1 hx
    have hi : i < 58 := by
      have := (List.getElem?_eq_some_iff.1 hr).1
      rwa [tab_length] at this
    have hpl : (pairsTo i).length ≤ 58 := by simp [pairsTo]; omega
    conv => whnf
    refine ⟨rfl, rfl, ?_⟩
    conv => whnf
    refine ⟨.inr rfl, .inr rfl, ?_, ?_, ?_, ?_⟩
    · exact (fun q hq => by
        have hq' : q ∈ [pair r] := hq
        simp only [List.mem_cons, List.not_mem_nil, or_false] at hq'
        subst hq'
        rfl)
    · show ((pairsTo i).length + 1) * 16 ≤ maxBytes
      unfold maxBytes
      omega
    · show (pairsTo i).length + 1 ≤ maxBytes
      unfold maxBytes
      omega
    conv => whnf
    refine ⟨[some (.cells 27 [.dat 2 (pairsTo (i + 1)) (.cls 9)])], [some (.cells 37 (rcells r))], ?_, rfl, ?_, rfl⟩
    · have : pairsTo (i + 1) = pairsTo i ++ [pair r] := by
        unfold pairsTo
        rw [List.take_add_one, hr]
        simp
      rw [this]
      rfl
    · intro id b hb
      right
      cases id with
      | zero =>
        simp at hb
        subst hb
        exact .cells _ _ _ (.cons (.dat _ _ _) .nil)
      | succ id => simp at hb
  · rintro H' rfl
    conv => whnf
    show V.dat 2 (pairsTo (tab.map fun r => [V.agg (rcells r)]).length) .no = _
    rw [List.length_map, pairsTo, List.take_length]
end Go.Abs.Sig
