/- The walks of some functions: what they compute. -/
import Derived.Test.YtbdoompjipjdbaaSig15
namespace Go.Abs.Sig
open Go.RowKit Go.Abs
set_option linter.unusedSimpArgs false
set_option linter.unusedVariables false
set_option maxRecDepth 8000
attribute [local irreducible] StCall StYield WPc Weak IterOf Call2

def alS (c i : Int) (b : Bool) (j : Nat) : S2 := headS 121 ([.int .i64 c, .int .i64 i, .bad, .bad, .bad, .bool true, .dat 2 (tab.map pair) .no, .bool b, .int .i64 (j : Int)] ++ List.replicate 112 .bad) [] [] none

set_option maxRecDepth 100000 in
theorem tab_in : (tab.all fun r => isAt r.1 r.2.1) = true := by decide
set_option maxRecDepth 100000 in
theorem tab_rise : ((List.range 57).all fun j => match tab[j]?, tab[j + 1]? with
  | some r, some r' => !(decide (r.1 > r'.1)) && !(decide (r.1 = r'.1) && decide (r.2.1 ≥ r'.2.1))
  | _, _ => false) = true := by decide
theorem tab_rise' {j : Nat} {r r' : Row'} (h1 : tab[j]? = some r) (h2 : tab[j + 1]? = some r') : decide (r.1 > r'.1) = false ∧ (decide (r.1 = r'.1) = true → decide (r.2.1 ≥ r'.2.1) = false) := by
  have hj : j < 57 := by
    have := (List.getElem?_eq_some_iff.1 h2).1
    rw [tab_length] at this; omega
  have := List.all_eq_true.1 tab_rise j (List.mem_range.2 hj)
  rw [h1, h2] at this
  simp only [Bool.and_eq_true, Bool.not_eq_true'] at this
  refine ⟨this.1, fun h => ?_⟩
  have h3 := this.2
  rw [h, Bool.true_and] at h3
  exact h3
theorem pair_get {j : Nat} {r : Row'} (h : tab[j]? = some r) : (tab.map pair)[Int.toNat (j : Int)]? = some (pair r) := by
  show (tab.map pair)[j]? = _
  rw [List.getElem?_map, h]; rfl

theorem sall_ct (G : Nat → Option (List V)) (c i : Int) (H : Heap) : Call2 Go.Proofs.Try.prog G 4 [.int .i64 c, .int .i64 i] H fun v H' => H' = H ∧ v = .bool true := by
  refine Call2.free (int_free (vs := [c, i])) ?_ H
  refine stCall2 Go.Proofs.Try.func4 rfl (by decide) ?_
  conv => whnf
  refine Call2.mono (shown_ct G _) fun r0 H0 h => ?_
  obtain ⟨h1, h2⟩ := h
  rw [h1, h2]
  clear h1 h2 r0 H0
  conv => whnf
  refine Call2.mono (Call2.free (Ψ := fun v => v = .dat 2 (tab.map pair) .no) (fun v hv => by cases hv) ((all_ct0 G).mono fun r _ h => ⟨by rw [h]; exact .dat _ _ _ (by simp), h⟩) _) fun r0 H0 h => ?_
  obtain ⟨h1, h2⟩ := h
  rw [h1, h2]
  clear h1 h2 r0 H0
  conv => whnf
  intro hw
  refine wpc_loop2 (fun m s1 => ∃ j : Nat, j ≤ 58 ∧ m = 58 - j ∧ s1 = alS c i ((tab.take j).any (pAt c i)) j) 58 (alS c i false 0) ?_ ⟨0, by omega, rfl, rfl⟩ ?_ ?_
  · exact weak2 hw rfl ⟨.im _, .im _, .im _, .dat _ _ _, .im _, .im _, trivial⟩ (.nil _) (fun id hid => by cases hid) rfl (fun id hid => by cases hid)
  · rintro m s1 ⟨j, hj, rfl, rfl⟩
    exact ⟨⟨Nat.le_refl 121, fun x hx => by cases hx⟩, rfl, Nat.le_refl 0, rfl⟩
  · rintro m s1 ⟨j, hj, rfl, rfl⟩
    generalize hb : (tab.take j).any (pAt c i) = b
    conv => whnf
    refine br_intro (fun hlt => ?_) (fun hge => ?_)
    · have hlt' : decide ((j : Int) < ((tab.map pair).length : Int)) = true := hlt
      rw [decide_eq_true_eq, List.length_map, tab_length] at hlt'
      have hj2 : j < 58 := by omega
      obtain ⟨r, hr⟩ : ∃ r, tab[j]? = some r := ⟨_, List.getElem?_eq_getElem (by rw [tab_length]; exact hj2)⟩
      have hget := pair_get hr
      have hwj : IntKind.i64.wrap ((j : Int) + 1) = ((j + 1 : Nat) : Int) := by rw [wrap_i64 (by omega) (by omega)]; rfl
      have hg : (true && true && decide ((0 : Int) ≤ (j : Int))) = true := by simp
      have his : isAt r.1 r.2.1 = true := List.all_eq_true.1 tab_in r (List.mem_of_getElem? hr)
      conv => whnf
      intro hw2
      refine wpc_draw2 16 (by rfl) (by decide) (by decide) hw2 ?_
      conv => whnf
      refine grd_intro hg (optK_intro hget ?_)
      conv => whnf
      refine grd_intro hg (optK_intro hget ?_)
      conv => whnf
      refine ⟨_, of_ct G r.1 r.2.1 _, ?_⟩
      rw [his]
      conv => whnf
      intro hw3
      refine wpc_draw2 48 (by rfl) (by decide) (by decide) hw3 ?_
      conv => whnf
      refine br_intro (fun hj0 => ?_) (fun hj0 => ?_)
      · have hj0' : decide ((0 : Int) < (j : Int)) = true := hj0
        rw [decide_eq_true_eq] at hj0'
        obtain ⟨k, hk⟩ : ∃ k, j = k + 1 := Nat.exists_eq_add_one.2 (Int.natCast_pos.1 hj0')
        obtain ⟨r', hr'⟩ : ∃ r, tab[k]? = some r := ⟨_, List.getElem?_eq_getElem (by rw [tab_length]; omega)⟩
        obtain ⟨hri, hri2⟩ := tab_rise' hr' (by rw [← hk]; exact hr)
        have hwk : IntKind.i64.wrap ((j : Int) - 1) = (k : Int) := by rw [wrap_i64 (by omega) (by omega)]; omega
        have hget' : (tab.map pair)[(IntKind.i64.wrap ((j : Int) - 1)).toNat]? = some (pair r') := by rw [hwk]; exact pair_get hr'
        have hgk : (true && true && decide ((0 : Int) ≤ IntKind.i64.wrap ((j : Int) - 1))) = true := by rw [hwk]; simp
        conv => whnf
        refine grd_intro hgk (optK_intro hget' ?_)
        conv => whnf
        refine grd_intro hg (optK_intro hget ?_)
        conv => whnf
        refine br_f (by show decide (r'.1 > r.1) = false; exact hri) ?_
        conv => whnf
        refine grd_intro hgk (optK_intro hget' ?_)
        conv => whnf
        refine grd_intro hg (optK_intro hget ?_)
        conv => whnf
        refine br_intro (fun he => ?_) (fun he => ?_)
        · have he' : decide (r'.1 = r.1) = true := he
          have hge2 := hri2 he'
          conv => whnf
          refine grd_intro hgk (optK_intro hget' ?_)
          conv => whnf
          refine grd_intro hg (optK_intro hget ?_)
          conv => whnf
          refine br_f (by show bsel true (bsel false true (bsel true (decide (r'.2.1 ≥ r.2.1)) false)) false = false; rw [hge2]; rfl) ?_
          conv => whnf
          refine br_intro (fun hbt => ?_) (fun hbf => ?_)
          · have hn : ((tab.take (j + 1)).any (pAt c i)) = true := by rw [any_take tab (pAt c i) j r hr, hb]; show (b || _) = true; rw [show b = true from hbt]; rfl
            conv => whnf
            intro hw4
            refine ⟨58 - (j + 1), alS c i ((tab.take (j + 1)).any (pAt c i)) (j + 1), by omega, ?_, j + 1, by omega, rfl, rfl⟩
            rw [hn]
            exact weak2 hw4 rfl ⟨.im _, .im _, .im _, .dat _ _ _, .boolE (by simp [bsel]), .int hwj, trivial⟩ (.nil _) (fun id hid => by cases hid) rfl (fun id hid => by cases hid)

          · conv => whnf
            refine grd_intro hg (optK_intro hget ?_)
            conv => whnf
            refine br_intro (fun h1 => ?_) (fun h1 => ?_)
            · have h1' : decide (r.1 = c) = true := h1
              have hn : ((tab.take (j + 1)).any (pAt c i)) = decide (r.2.1 = i) := by
                rw [any_take tab (pAt c i) j r hr, hb]; show (b || (decide (r.1 = c) && _)) = _; rw [show b = false from hbf, h1']; rfl
              conv => whnf
              refine grd_intro hg (optK_intro hget ?_)
              conv => whnf
              intro hw4
              refine ⟨58 - (j + 1), alS c i ((tab.take (j + 1)).any (pAt c i)) (j + 1), by omega, ?_, j + 1, by omega, rfl, rfl⟩
              rw [hn]
              exact weak2 hw4 rfl ⟨.im _, .im _, .im _, .dat _ _ _, .boolE (by simp [bsel]), .int hwj, trivial⟩ (.nil _) (fun id hid => by cases hid) rfl (fun id hid => by cases hid)

            · have h1' : decide (r.1 = c) = false := h1
              have hn : ((tab.take (j + 1)).any (pAt c i)) = false := by
                rw [any_take tab (pAt c i) j r hr, hb]; show (b || (decide (r.1 = c) && _)) = _; rw [show b = false from hbf, h1']; rfl
              conv => whnf
              intro hw4
              refine ⟨58 - (j + 1), alS c i ((tab.take (j + 1)).any (pAt c i)) (j + 1), by omega, ?_, j + 1, by omega, rfl, rfl⟩
              rw [hn]
              exact weak2 hw4 rfl ⟨.im _, .im _, .im _, .dat _ _ _, .boolE (by simp [bsel]), .int hwj, trivial⟩ (.nil _) (fun id hid => by cases hid) rfl (fun id hid => by cases hid)
        · conv => whnf
          conv => whnf
          refine br_intro (fun hbt => ?_) (fun hbf => ?_)
          · have hn : ((tab.take (j + 1)).any (pAt c i)) = true := by rw [any_take tab (pAt c i) j r hr, hb]; show (b || _) = true; rw [show b = true from hbt]; rfl
            conv => whnf
            intro hw4
            refine ⟨58 - (j + 1), alS c i ((tab.take (j + 1)).any (pAt c i)) (j + 1), by omega, ?_, j + 1, by omega, rfl, rfl⟩
            rw [hn]
            exact weak2 hw4 rfl ⟨.im _, .im _, .im _, .dat _ _ _, .boolE (by simp [bsel]), .int hwj, trivial⟩ (.nil _) (fun id hid => by cases hid) rfl (fun id hid => by cases hid)

          · conv => whnf
            refine grd_intro hg (optK_intro hget ?_)
            conv => whnf
            refine br_intro (fun h1 => ?_) (fun h1 => ?_)
            · have h1' : decide (r.1 = c) = true := h1
              have hn : ((tab.take (j + 1)).any (pAt c i)) = decide (r.2.1 = i) := by
                rw [any_take tab (pAt c i) j r hr, hb]; show (b || (decide (r.1 = c) && _)) = _; rw [show b = false from hbf, h1']; rfl
              conv => whnf
              refine grd_intro hg (optK_intro hget ?_)
              conv => whnf
              intro hw4
              refine ⟨58 - (j + 1), alS c i ((tab.take (j + 1)).any (pAt c i)) (j + 1), by omega, ?_, j + 1, by omega, rfl, rfl⟩
              rw [hn]
              exact weak2 hw4 rfl ⟨.im _, .im _, .im _, .dat _ _ _, .boolE (by simp [bsel]), .int hwj, trivial⟩ (.nil _) (fun id hid => by cases hid) rfl (fun id hid => by cases hid)

            · have h1' : decide (r.1 = c) = false := h1
              have hn : ((tab.take (j + 1)).any (pAt c i)) = false := by
                rw [any_take tab (pAt c i) j r hr, hb]; show (b || (decide (r.1 = c) && _)) = _; rw [show b = false from hbf, h1']; rfl
              conv => whnf
              intro hw4
              refine ⟨58 - (j + 1), alS c i ((tab.take (j + 1)).any (pAt c i)) (j + 1), by omega, ?_, j + 1, by omega, rfl, rfl⟩
              rw [hn]
              exact weak2 hw4 rfl ⟨.im _, .im _, .im _, .dat _ _ _, .boolE (by simp [bsel]), .int hwj, trivial⟩ (.nil _) (fun id hid => by cases hid) rfl (fun id hid => by cases hid)
      · conv => whnf
        conv => whnf
        refine br_intro (fun hbt => ?_) (fun hbf => ?_)
        · have hn : ((tab.take (j + 1)).any (pAt c i)) = true := by rw [any_take tab (pAt c i) j r hr, hb]; show (b || _) = true; rw [show b = true from hbt]; rfl
          conv => whnf
          intro hw4
          refine ⟨58 - (j + 1), alS c i ((tab.take (j + 1)).any (pAt c i)) (j + 1), by omega, ?_, j + 1, by omega, rfl, rfl⟩
          rw [hn]
          exact weak2 hw4 rfl ⟨.im _, .im _, .im _, .dat _ _ _, .boolE (by simp [bsel]), .int hwj, trivial⟩ (.nil _) (fun id hid => by cases hid) rfl (fun id hid => by cases hid)

        · conv => whnf
          refine grd_intro hg (optK_intro hget ?_)
          conv => whnf
          refine br_intro (fun h1 => ?_) (fun h1 => ?_)
          · have h1' : decide (r.1 = c) = true := h1
            have hn : ((tab.take (j + 1)).any (pAt c i)) = decide (r.2.1 = i) := by
              rw [any_take tab (pAt c i) j r hr, hb]; show (b || (decide (r.1 = c) && _)) = _; rw [show b = false from hbf, h1']; rfl
            conv => whnf
            refine grd_intro hg (optK_intro hget ?_)
            conv => whnf
            intro hw4
            refine ⟨58 - (j + 1), alS c i ((tab.take (j + 1)).any (pAt c i)) (j + 1), by omega, ?_, j + 1, by omega, rfl, rfl⟩
            rw [hn]
            exact weak2 hw4 rfl ⟨.im _, .im _, .im _, .dat _ _ _, .boolE (by simp [bsel]), .int hwj, trivial⟩ (.nil _) (fun id hid => by cases hid) rfl (fun id hid => by cases hid)

          · have h1' : decide (r.1 = c) = false := h1
            have hn : ((tab.take (j + 1)).any (pAt c i)) = false := by
              rw [any_take tab (pAt c i) j r hr, hb]; show (b || (decide (r.1 = c) && _)) = _; rw [show b = false from hbf, h1']; rfl
            conv => whnf
            intro hw4
            refine ⟨58 - (j + 1), alS c i ((tab.take (j + 1)).any (pAt c i)) (j + 1), by omega, ?_, j + 1, by omega, rfl, rfl⟩
            rw [hn]
            exact weak2 hw4 rfl ⟨.im _, .im _, .im _, .dat _ _ _, .boolE (by simp [bsel]), .int hwj, trivial⟩ (.nil _) (fun id hid => by cases hid) rfl (fun id hid => by cases hid)
    · have hge' : decide ((j : Int) < ((tab.map pair).length : Int)) = false := hge
      rw [decide_eq_false_iff_not, List.length_map, tab_length] at hge'
      obtain rfl : j = 58 := by omega
      have hbe : b = isAt c i := by
        rw [← hb, List.take_of_length_le (by rw [tab_length]; omega)]
        unfold isAt
        cases hf : tab.find? (pAt c i) with
        | none =>
          rw [List.find?_eq_none] at hf
          rw [Option.isSome_none, List.any_eq_false]
          exact hf
        | some x =>
          rw [Option.isSome_some, List.any_eq_true]
          exact ⟨x, List.mem_of_find?_eq_some hf, List.find?_some hf⟩
      subst hbe
      conv => whnf
      refine Call2.mono (of_ct G c i _) fun r0 H0 h => ?_
      obtain ⟨h1, h2⟩ := h
      rw [h1, h2]
      clear h1 h2 r0 H0
      conv => whnf
      refine br_t (by show bsel true (isAt c i == isAt c i) false = true; simp [bsel]) ?_
      conv => whnf
      refine Call2.mono (Call2.free (Ψ := fun v => v = .dat 4 (rtab.map rrcells) .no) (fun v hv => by cases hv) ((rall_ct G).mono fun r _ h => ⟨by rw [h]; exact .dat _ _ _ (by simp), h⟩) _) fun r0 H0 h => ?_
      obtain ⟨h1, h2⟩ := h
      rw [h1, h2]
      clear h1 h2 r0 H0
      conv => whnf
      refine ⟨.im _, ?_⟩
      show V.bool (bsel true (decide (((tab.map pair).length : Int) = ((rtab.map rrcells).length : Int))) false) = _
      rw [List.length_map, List.length_map, rtab_length, tab_length]
      rfl
end Go.Abs.Sig
