/- The walks of some functions: what they compute. -/
import Derived.Test.YteklnflddoekfaaDoorRASig12
namespace Go.Abs.Sig
open Go.RowKit Go.Abs
set_option linter.unusedSimpArgs false
set_option linter.unusedVariables false
set_option maxRecDepth 8000
attribute [local irreducible] StCall StYield WPc Weak IterOf Call2

def sideB (n : Int) : Int := if n = 1 then 67 else if n = 2 then 83 else 66
def toR (r : Row') : RRow := (r.1, r.2.1, sideB r.2.2.2.1, r.2.2.1)
set_option maxRecDepth 100000 in
theorem rtab_eq : rtab = tab.map toR := by decide +kernel
def pR (c i : Int) (r : RRow) : Bool := decide (r.1 = c) && decide (r.2.1 = i)

theorem rtab_length : rtab.length = 58 := by rw [rtab_eq, List.length_map]; rfl

def rofS (c i : Int) (j : Nat) : S2 := headS 36 ([.int .i64 c, .int .i64 i, .bad, .bad, .bad, .bad, .dat 4 (rtab.map rrcells) .no, .int .i64 (j : Int)] ++ List.replicate 28 .bad) [] [] none

def rof (c i : Int) : List UInt8 × Bool := match rtab.find? (pR c i) with
  | some r => (r.2.2.2, true)
  | none => ([], false)

theorem rof_ct (G : Nat → Option (List V)) (c i : Int) (H : Heap) : Call2 Go.Proofs.Tryd.prog G 16 [.int .i64 c, .int .i64 i] H fun v H' => H' = H ∧ v = .tup [.str (rof c i).1, .bool (rof c i).2] := by
  refine Call2.free (int_free (vs := [c, i])) ?_ H
  refine stCall2 Go.Proofs.Tryd.func16 rfl (by decide) ?_
  conv => whnf
  refine Call2.mono (Call2.free (Ψ := fun v => v = .dat 4 (rtab.map rrcells) .no) (fun v hv => by cases hv) ((rall_ct G).mono fun r _ h => ⟨by rw [h]; exact .dat _ _ _ (by simp), h⟩) _) fun r0 H0 h => ?_
  obtain ⟨h1, h2⟩ := h
  rw [h1, h2]
  clear h1 h2 r0 H0
  conv => whnf
  intro hw
  refine wpc_loop2 (fun m s1 => ∃ j : Nat, j ≤ 58 ∧ m = 58 - j ∧ s1 = rofS c i j ∧ ∀ x ∈ rtab.take j, pR c i x = false) 58 (rofS c i 0) ?_ ⟨0, by omega, rfl, rfl, fun x hx => by cases hx⟩ ?_ ?_
  · exact weak2 hw rfl ⟨.im _, .im _, .dat _ _ _, .im _, trivial⟩ (.nil _) (fun id hid => by cases hid) rfl (fun id hid => by cases hid)
  · rintro m s1 ⟨j, hj, rfl, rfl, _⟩
    exact ⟨⟨Nat.le_refl 36, fun x hx => by cases hx⟩, rfl, Nat.le_refl 0, rfl⟩
  · rintro m s1 ⟨j, hj, rfl, rfl, hall⟩
    conv => whnf
    refine br_intro (fun hlt => ?_) (fun hge => ?_)
    · have hlt' : decide ((j : Int) < ((rtab.map rrcells).length : Int)) = true := hlt
      rw [decide_eq_true_eq, List.length_map, rtab_length] at hlt'
      have hj2 : j < 58 := by omega
      obtain ⟨r, hr⟩ : ∃ r, rtab[j]? = some r := ⟨_, List.getElem?_eq_getElem (by rw [rtab_length]; exact hj2)⟩
      have hget : (rtab.map rrcells)[Int.toNat (j : Int)]? = some (rrcells r) := by
        show (rtab.map rrcells)[j]? = _
        rw [List.getElem?_map, hr]; rfl
      have hwj : IntKind.i64.wrap ((j : Int) + 1) = ((j + 1 : Nat) : Int) := by rw [wrap_i64 (by omega) (by omega)]; rfl
      have hg : (true && true && decide ((0 : Int) ≤ (j : Int))) = true := by simp
      have hnext : pR c i r = false → ∀ x ∈ rtab.take (j + 1), pR c i x = false := fun hp x hx => by
        rw [List.take_add_one, hr, List.mem_append] at hx
        rcases hx with hx | hx
        · exact hall x hx
        · simp at hx; subst hx; exact hp
      conv => whnf
      refine grd_intro hg (optK_intro hget ?_)
      conv => whnf
      refine br_intro (fun h1 => ?_) (fun h1 => ?_)
      · conv => whnf
        refine grd_intro hg (optK_intro hget ?_)
        conv => whnf
        refine br_intro (fun h2 => ?_) (fun h2 => ?_)
        · have hp : pR c i r = true := by
            have h1' : decide (r.1 = c) = true := h1
            have h2' : decide (r.2.1 = i) = true := h2
            unfold pR
            rw [h1', h2']; rfl
          conv => whnf
          refine grd_intro hg (optK_intro hget ?_)
          conv => whnf
          refine ⟨free_tup2 (.str _) (.im _), ?_⟩
          have := find_first (pR c i) rtab j r hr hp hall
          unfold rof
          rw [this]
          rfl
        · have hp : pR c i r = false := by
            have h2' : decide (r.2.1 = i) = false := h2
            unfold pR
            rw [h2', Bool.and_false]
          conv => whnf
          intro hw2
          refine ⟨58 - (j + 1), rofS c i (j + 1), by omega, ?_, j + 1, by omega, rfl, rfl, hnext hp⟩
          exact weak2 hw2 rfl ⟨.im _, .im _, .dat _ _ _, .int hwj, trivial⟩ (.nil _) (fun id hid => by cases hid) rfl (fun id hid => by cases hid)
      · have hp : pR c i r = false := by
          have h1' : decide (r.1 = c) = false := h1
          unfold pR
          rw [h1', Bool.false_and]
        conv => whnf
        intro hw2
        refine ⟨58 - (j + 1), rofS c i (j + 1), by omega, ?_, j + 1, by omega, rfl, rfl, hnext hp⟩
        exact weak2 hw2 rfl ⟨.im _, .im _, .dat _ _ _, .int hwj, trivial⟩ (.nil _) (fun id hid => by cases hid) rfl (fun id hid => by cases hid)
    · have hge' : decide ((j : Int) < ((rtab.map rrcells).length : Int)) = false := hge
      rw [decide_eq_false_iff_not, List.length_map, rtab_length] at hge'
      obtain rfl : j = 58 := by omega
      have : rtab.find? (pR c i) = none := find_none' _ _ (by rwa [List.take_of_length_le (by rw [rtab_length]; omega)] at hall)
      unfold rof
      rw [this]
      conv => whnf
      exact ⟨free_tup2 (.str _) (.im _), rfl⟩

/-! What is said is the same. -/
theorem rfind (c i : Int) : rtab.find? (pR c i) = (tab.find? (pAt c i)).map toR := by
  rw [rtab_eq, List.find?_map]
  rfl
theorem rof_eq (c i : Int) : rof c i = ((rowAt c i).2.2.1, isAt c i) := by
  unfold rof rowAt isAt
  rw [rfind]
  cases tab.find? (pAt c i) <;> rfl

end Go.Abs.Sig
