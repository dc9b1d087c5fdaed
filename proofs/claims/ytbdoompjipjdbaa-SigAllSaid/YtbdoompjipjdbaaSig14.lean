/- The walks of some functions: what they compute. -/
import Derived.Test.YtbdoompjipjdbaaSig13
namespace Go.Abs.Sig
open Go.RowKit Go.Abs
set_option linter.unusedSimpArgs false
set_option linter.unusedVariables false
set_option maxRecDepth 8000
attribute [local irreducible] StCall StYield WPc Weak IterOf Call2

def sideB (n : Int) : Int := if n = 1 then 67 else if n = 2 then 83 else 66
def toR (r : Row') : RRow := (r.1, r.2.1, sideB r.2.2.2.1, r.2.2.1)
set_option maxRecDepth 100000 in
theorem rtab_eq : rtab = tab.map toR := by decide +kernel
def pR (c i : Int) (r : RRow) : Bool := decide (r.1 = c) && decide (r.2.1 = i)

theorem rtab_length : rtab.length = 58 := by rw [rtab_eq, List.length_map]; rfl

def rofS (c i : Int) (j : Nat) : S2 := headS 36 ([.int .i64 c, .int .i64 i, .bad, .bad, .bad, .bad, .dat 4 (rtab.map rrcells) .no, .int .i64 (j : Int)] ++ List.replicate 28 .bad) [] [] none

def rof (c i : Int) : List UInt8 × Bool := match rtab.find? (pR c i) with
  | some r => (r.2.2.2, true)
  | none => ([], false)

theorem rof_ct (G : Nat → Option (List V)) (c i : Int) (H : Heap) : Call2 Go.Proofs.Try.prog G 17 [.int .i64 c, .int .i64 i] H fun v H' => H' = H ∧ v = .tup [.str (rof c i).1, .bool (rof c i).2] := by
  refine Call2.free (int_free (vs := [c, i])) ?_ H
  refine stCall2 Go.Proofs.Try.func17 rfl (by decide) ?_
  conv => whnf
  refine Call2.mono (Call2.free (Ψ := fun v => v = .dat 4 (rtab.map rrcells) .no) (fun v hv => by cases hv) ((rall_ct G).mono fun r _ h => ⟨by rw [h]; exact .dat _ _ _ (by simp), h⟩) _) fun r0 H0 h => ?_
  obtain ⟨h1, h2⟩ := h
  rw [h1, h2]
  clear h1 h2 r0 H0
  conv => whnf
  intro hw
  refine wpc_loop2 (fun m s1 => ∃ j : Nat, j ≤ 58 ∧ m = 58 - j ∧ s1 = rofS c i j ∧ ∀ x ∈ rtab.take j, pR c i x = false) 58 (rofS c i 0) ?_ ⟨0, by omega, rfl, rfl, fun x hx => by cases hx⟩ ?_ ?_
  · exact weak2 hw rfl ⟨.im _, .im _, .dat _ _ _, .im _, trivial⟩ (.nil _) (fun id hid => by cases hid) rfl (fun id hid => by cases hid)
  · rintro m s1 ⟨j, hj, rfl, rfl, _⟩
    exact ⟨⟨Nat.le_refl 36, fun x hx => by cases hx⟩, rfl, Nat.le_refl 0, rfl⟩
  · rintro m s1 ⟨j, hj, rfl, rfl, hall⟩
    conv => whnf
    refine br_intro (fun hlt => ?_) (fun hge => ?_)
    · have hlt' : decide ((j : Int) < ((rtab.map rrcells).length : Int)) = true := hlt
      rw [decide_eq_true_eq, List.length_map, rtab_length] at hlt'
      have hj2 : j < 58 := by omega
      obtain ⟨r, hr⟩ : ∃ r, rtab[j]? = some r := ⟨_, List.getElem?_eq_getElem (by rw [rtab_length]; exact hj2)⟩
      have hget : (rtab.map rrcells)[Int.toNat (j : Int)]? = some (rrcells r) := by
        show (rtab.map rrcells)[j]? = _
        rw [List.getElem?_map, hr]; rfl
      have hwj : IntKind.i64.wrap ((j : Int) + 1) = ((j + 1 : Nat) : Int) := by rw [wrap_i64 (by omega) (by omega)]; rfl
      have hg : (true && true && decide ((0 : Int) ≤ (j : Int))) = true := by simp
      have hnext : pR c i r = false → ∀ x ∈ rtab.take (j + 1), pR c i x = false := fun hp x hx => by
        rw [List.take_add_one, hr, List.mem_append] at hx
        rcases hx with hx | hx
        · exact hall x hx
        · simp at hx; subst hx; exact hp
      conv => whnf
      refine grd_intro hg (optK_intro hget ?_)
      conv => whnf
      refine br_intro (fun h1 => ?_) (fun h1 => ?_)
      · conv => whnf
        refine grd_intro hg (optK_intro hget ?_)
        conv => whnf
        refine br_intro (fun h2 => ?_) (fun h2 => ?_)
        · have hp : pR c i r = true := by
            have h1' : decide (r.1 = c) = true := h1
            have h2' : decide (r.2.1 = i) = true := h2
            unfold pR
            rw [h1', h2']; rfl
          conv => whnf
          refine grd_intro hg (optK_intro hget ?_)
          conv => whnf
          refine ⟨free_tup2 (.str _) (.im _), ?_⟩
          have := find_first (pR c i) rtab j r hr hp hall
          unfold rof
          rw [this]
          rfl
        · have hp : pR c i r = false := by
            have h2' : decide (r.2.1 = i) = false := h2
            unfold pR
            rw [h2', Bool.and_false]
          conv => whnf
          intro hw2
          refine ⟨58 - (j + 1), rofS c i (j + 1), by omega, ?_, j + 1, by omega, rfl, rfl, hnext hp⟩
          exact weak2 hw2 rfl ⟨.im _, .im _, .dat _ _ _, .int hwj, trivial⟩ (.nil _) (fun id hid => by cases hid) rfl (fun id hid => by cases hid)
      · have hp : pR c i r = false := by
          have h1' : decide (r.1 = c) = false := h1
          unfold pR
          rw [h1', Bool.false_and]
        conv => whnf
        intro hw2
        refine ⟨58 - (j + 1), rofS c i (j + 1), by omega, ?_, j + 1, by omega, rfl, rfl, hnext hp⟩
        exact weak2 hw2 rfl ⟨.im _, .im _, .dat _ _ _, .int hwj, trivial⟩ (.nil _) (fun id hid => by cases hid) rfl (fun id hid => by cases hid)
    · have hge' : decide ((j : Int) < ((rtab.map rrcells).length : Int)) = false := hge
      rw [decide_eq_false_iff_not, List.length_map, rtab_length] at hge'
      obtain rfl : j = 58 := by omega
      have : rtab.find? (pR c i) = none := find_none' _ _ (by rwa [List.take_of_length_le (by rw [rtab_length]; omega)] at hall)
      unfold rof
      rw [this]
      conv => whnf
      exact ⟨free_tup2 (.str _) (.im _), rfl⟩

def rsdS (c i : Int) (j : Nat) : S2 := headS 42 ([.int .i64 c, .int .i64 i, .bad, .bad, .bad, .dat 4 (rtab.map rrcells) .no, .int .i64 (j : Int)] ++ List.replicate 35 .bad) [] [] none

def rsd (c i : Int) : Int := match rtab.find? (pR c i) with
  | some r => if r.2.2.1 = 67 then 1 else if r.2.2.1 = 83 then 2 else 3
  | none => 0

theorem rsd_ct (G : Nat → Option (List V)) (c i : Int) (H : Heap) : Call2 Go.Proofs.Try.prog G 20 [.int .i64 c, .int .i64 i] H fun v H' => H' = H ∧ v = .int .i64 (rsd c i) := by
  refine Call2.free (int_free (vs := [c, i])) ?_ H
  refine stCall2 Go.Proofs.Try.func20 rfl (by decide) ?_
  conv => whnf
  refine Call2.mono (Call2.free (Ψ := fun v => v = .dat 4 (rtab.map rrcells) .no) (fun v hv => by cases hv) ((rall_ct G).mono fun r _ h => ⟨by rw [h]; exact .dat _ _ _ (by simp), h⟩) _) fun r0 H0 h => ?_
  obtain ⟨h1, h2⟩ := h
  rw [h1, h2]
  clear h1 h2 r0 H0
  conv => whnf
  intro hw
  refine wpc_loop2 (fun m s1 => ∃ j : Nat, j ≤ 58 ∧ m = 58 - j ∧ s1 = rsdS c i j ∧ ∀ x ∈ rtab.take j, pR c i x = false) 58 (rsdS c i 0) ?_ ⟨0, by omega, rfl, rfl, fun x hx => by cases hx⟩ ?_ ?_
  · exact weak2 hw rfl ⟨.im _, .im _, .dat _ _ _, .im _, trivial⟩ (.nil _) (fun id hid => by cases hid) rfl (fun id hid => by cases hid)
  · rintro m s1 ⟨j, hj, rfl, rfl, _⟩
    exact ⟨⟨Nat.le_refl 42, fun x hx => by cases hx⟩, rfl, Nat.le_refl 0, rfl⟩
  · rintro m s1 ⟨j, hj, rfl, rfl, hall⟩
    conv => whnf
    refine br_intro (fun hlt => ?_) (fun hge => ?_)
    · have hlt' : decide ((j : Int) < ((rtab.map rrcells).length : Int)) = true := hlt
      rw [decide_eq_true_eq, List.length_map, rtab_length] at hlt'
      have hj2 : j < 58 := by omega
      obtain ⟨r, hr⟩ : ∃ r, rtab[j]? = some r := ⟨_, List.getElem?_eq_getElem (by rw [rtab_length]; exact hj2)⟩
      have hget : (rtab.map rrcells)[Int.toNat (j : Int)]? = some (rrcells r) := by
        show (rtab.map rrcells)[j]? = _
        rw [List.getElem?_map, hr]; rfl
      have hwj : IntKind.i64.wrap ((j : Int) + 1) = ((j + 1 : Nat) : Int) := by rw [wrap_i64 (by omega) (by omega)]; rfl
      have hg : (true && true && decide ((0 : Int) ≤ (j : Int))) = true := by simp
      have hnext : pR c i r = false → ∀ x ∈ rtab.take (j + 1), pR c i x = false := fun hp x hx => by
        rw [List.take_add_one, hr, List.mem_append] at hx
        rcases hx with hx | hx
        · exact hall x hx
        · simp at hx; subst hx; exact hp
      conv => whnf
      refine grd_intro hg (optK_intro hget ?_)
      conv => whnf
      refine br_intro (fun h1 => ?_) (fun h1 => ?_)
      · conv => whnf
        refine grd_intro hg (optK_intro hget ?_)
        conv => whnf
        refine br_intro (fun h2 => ?_) (fun h2 => ?_)
        · have hp : pR c i r = true := by
            have h1' : decide (r.1 = c) = true := h1
            have h2' : decide (r.2.1 = i) = true := h2
            unfold pR
            rw [h1', h2']; rfl
          conv => whnf
          refine grd_intro hg (optK_intro hget ?_)
          conv => whnf
          have := find_first (pR c i) rtab j r hr hp hall
          unfold rsd
          rw [this]
          refine br_intro (fun h3 => ?_) (fun h3 => ?_)
          · have h3' : decide (r.2.2.1 = 67) = true := h3
            conv => whnf
            refine ⟨.im _, ?_⟩
            show V.int .i64 1 = V.int .i64 (if r.2.2.1 = 67 then 1 else if r.2.2.1 = 83 then 2 else 3)
            rw [if_pos (by simpa using h3')]
          · have h3' : decide (r.2.2.1 = 67) = false := h3
            conv => whnf
            refine grd_intro hg (optK_intro hget ?_)
            conv => whnf
            refine br_intro (fun h4 => ?_) (fun h4 => ?_)
            · have h4' : decide (r.2.2.1 = 83) = true := h4
              conv => whnf
              refine ⟨.im _, ?_⟩
              show V.int .i64 2 = V.int .i64 (if r.2.2.1 = 67 then 1 else if r.2.2.1 = 83 then 2 else 3)
              rw [if_neg (by simpa using h3'), if_pos (by simpa using h4')]
            · have h4' : decide (r.2.2.1 = 83) = false := h4
              conv => whnf
              refine ⟨.im _, ?_⟩
              show V.int .i64 3 = V.int .i64 (if r.2.2.1 = 67 then 1 else if r.2.2.1 = 83 then 2 else 3)
              rw [if_neg (by simpa using h3'), if_neg (by simpa using h4')]
        · have hp : pR c i r = false := by
            have h2' : decide (r.2.1 = i) = false := h2
            unfold pR
            rw [h2', Bool.and_false]
          conv => whnf
          intro hw2
          refine ⟨58 - (j + 1), rsdS c i (j + 1), by omega, ?_, j + 1, by omega, rfl, rfl, hnext hp⟩
          exact weak2 hw2 rfl ⟨.im _, .im _, .dat _ _ _, .int hwj, trivial⟩ (.nil _) (fun id hid => by cases hid) rfl (fun id hid => by cases hid)
      · have hp : pR c i r = false := by
          have h1' : decide (r.1 = c) = false := h1
          unfold pR
          rw [h1', Bool.false_and]
        conv => whnf
        intro hw2
        refine ⟨58 - (j + 1), rsdS c i (j + 1), by omega, ?_, j + 1, by omega, rfl, rfl, hnext hp⟩
        exact weak2 hw2 rfl ⟨.im _, .im _, .dat _ _ _, .int hwj, trivial⟩ (.nil _) (fun id hid => by cases hid) rfl (fun id hid => by cases hid)
    · have hge' : decide ((j : Int) < ((rtab.map rrcells).length : Int)) = false := hge
      rw [decide_eq_false_iff_not, List.length_map, rtab_length] at hge'
      obtain rfl : j = 58 := by omega
      have : rtab.find? (pR c i) = none := find_none' _ _ (by rwa [List.take_of_length_le (by rw [rtab_length]; omega)] at hall)
      unfold rsd
      rw [this]
      conv => whnf
      exact ⟨.im _, rfl⟩

/-! What is said is the same. -/
theorem rfind (c i : Int) : rtab.find? (pR c i) = (tab.find? (pAt c i)).map toR := by
  rw [rtab_eq, List.find?_map]
  rfl
theorem rof_eq (c i : Int) : rof c i = ((rowAt c i).2.2.1, isAt c i) := by
  unfold rof rowAt isAt
  rw [rfind]
  cases tab.find? (pAt c i) <;> rfl
theorem rsd_eq (c i : Int) : rsd c i = (rowAt c i).2.2.2.1 := by
  unfold rsd rowAt
  rw [rfind]
  cases h : tab.find? (pAt c i) with
  | none => rfl
  | some r =>
    have hr := List.mem_of_find?_eq_some h
    have := List.all_eq_true.1 tab_side r hr
    simp only [Bool.and_eq_true, decide_eq_true_eq] at this
    show (if sideB r.2.2.2.1 = 67 then (1 : Int) else if sideB r.2.2.2.1 = 83 then 2 else 3) = r.2.2.2.1
    have hc : r.2.2.2.1 = 1 ∨ r.2.2.2.1 = 2 ∨ r.2.2.2.1 = 3 := by omega
    rcases hc with h | h | h <;> rw [h] <;> rfl

def keys : List (Int × Int) := [(10, 10), (10, 20), (10, 30), (10, 40), (10, 50), (20, 10), (20, 20), (20, 40), (40, 10), (40, 20), (50, 10), (50, 20), (50, 30), (50, 40), (50, 50), (60, 10), (60, 20), (60, 30), (60, 70), (60, 110), (85, 10), (90, 10), (90, 20), (90, 30)]
theorem rasks_keys {c i : Int} (h : rasks c i = true) : (c, i) ∈ keys := by
  simp only [rasks, Bool.or_eq_true, Bool.and_eq_true, decide_eq_true_eq] at h
  repeat' (refine Or.elim h ?_ ?_ <;> clear h <;> intro h)
  all_goals obtain ⟨hc, h⟩ := h
  all_goals subst hc
  all_goals repeat' (refine Or.elim h ?_ ?_ <;> clear h <;> intro h)
  all_goals subst h
  all_goals decide
set_option maxRecDepth 100000 in
theorem keys_rep : (keys.all fun k => decide (rreplies k.1 k.2 = replies k.1 k.2) && decide (asks k.1 (k.2 + 1) = k.2)) = true := by decide +kernel
set_option maxRecDepth 100000 in
theorem tab_rasks : (tab.all fun r => decide (rreplies r.1 r.2.1 = replies r.1 r.2.1) && (decide (r.2.2.2.2.1 = 0) || decide (rAsks r.1 r.2.2.2.2.1 = r.2.1)) && (decide (r.2.2.2.2.2 = 0) || decide (rAsks r.1 r.2.2.2.2.2 = r.2.1))) = true := by decide +kernel
theorem rreplies_eq (c i : Int) : rreplies c i = replies c i := by
  cases h : rasks c i
  · cases hr : isAt c i
    · have : replies c i = [] := by unfold replies; rw [at_none hr]; rfl
      rw [this]
      unfold rreplies
      rw [h]; rfl
    · have hm := at_some hr
      have h1 := (List.all_eq_true.1 tab_rasks _ hm)
      simp only [Bool.and_eq_true, decide_eq_true_eq] at h1
      have hk : (rowAt c i).1 = c ∧ (rowAt c i).2.1 = i := by
        unfold isAt at hr
        unfold rowAt
        cases hf : tab.find? (pAt c i) with
        | none => rw [hf] at hr; cases hr
        | some r =>
          have := List.find?_some hf
          simp only [pAt, Bool.and_eq_true, decide_eq_true_eq] at this
          exact this
      rw [hk.1, hk.2] at h1
      exact h1.1.1
  · have := List.all_eq_true.1 keys_rep _ (rasks_keys h)
    simp only [Bool.and_eq_true, decide_eq_true_eq] at this
    exact this.1
theorem rAsks_eq (c i : Int) (h0 : -9223372036854775808 ≤ i) (h1 : i ≤ 9223372036854775807) : rAsks c i = asks c i := by
  by_cases ha : asks c i = 0
  · unfold rAsks
    split
    · rename_i hb
      simp only [Bool.and_eq_true, decide_eq_true_eq] at hb
      rw [hb.1, hb.2] at ha
      exact absurd ha (by decide)
    · split
      · rename_i hb
        simp only [Bool.and_eq_true, decide_eq_true_eq] at hb
        obtain ⟨hp, hq⟩ := hb
        rw [wrap_i64 (by omega) (by omega)] at hq
        have := List.all_eq_true.1 keys_rep _ (rasks_keys hq)
        simp only [Bool.and_eq_true, decide_eq_true_eq] at this
        have h2 := this.2
        rw [show i - 1 + 1 = i from by omega, ha] at h2
        have h3 := rasks_keys hq
        rw [← h2] at h3
        exfalso
        simp [keys] at h3
      · exact ha.symm
  · obtain ⟨r, hr, he, hi, rfl, h2⟩ := asks_row ha
    have h3 := List.all_eq_true.1 tab_rasks _ hr
    simp only [Bool.and_eq_true, Bool.or_eq_true, decide_eq_true_eq] at h3
    rw [he]
    rcases h2 with rfl | rfl
    · rcases h3.1.2 with h | h
      · exact absurd h hi
      · exact h
    · rcases h3.2 with h | h
      · exact absurd h hi
      · exact h
end Go.Abs.Sig
