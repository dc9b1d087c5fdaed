/- The walks of some functions: what they compute. -/
import Derived.Test.YtbdoompjipjdbaaSig7
namespace Go.Abs.Sig
open Go.RowKit Go.Abs
set_option linter.unusedSimpArgs false
set_option linter.unusedVariables false
set_option maxRecDepth 8000
attribute [local irreducible] StCall StYield WPc Weak IterOf Call2

def opp (a b : Int) : Bool := (decide (a = 1) && decide (b = 2)) || (decide (a = 2) && decide (b = 1)) || (decide (a = 3) && decide (b = 3))
set_option maxRecDepth 100000 in
theorem tab_rep : (tab.all fun r => (nz r.2.2.2.2.1 ++ nz r.2.2.2.2.2).all fun x => decide (asks r.1 x = r.2.1) && (replies r.1 x).isEmpty && opp r.2.2.2.1 (rowAt r.1 x).2.2.2.1) = true := by decide

theorem rep_facts {r : Row'} (hr : r ∈ tab) {x : Int} (hx : x ∈ nz r.2.2.2.2.1 ++ nz r.2.2.2.2.2) : asks r.1 x = r.2.1 ∧ replies r.1 x = [] ∧ opp r.2.2.2.1 (rowAt r.1 x).2.2.2.1 = true := by
  have := List.all_eq_true.1 (List.all_eq_true.1 tab_rep r hr) x hx
  simp only [Bool.and_eq_true, decide_eq_true_eq, List.isEmpty_iff] at this
  exact ⟨this.1.1, this.1.2, this.2⟩

theorem asks_no_replies {c i : Int} (h : asks c i ≠ 0) : replies c i = [] := by
  obtain ⟨r, hr, ha, hi, hc, hrep⟩ := asks_row h
  have hx : i ∈ nz r.2.2.2.2.1 ++ nz r.2.2.2.2.2 := by
    rw [List.mem_append]
    rcases hrep with rfl | rfl
    · left; unfold nz; rw [if_neg hi]; simp
    · right; unfold nz; rw [if_neg hi]; simp
  have := (rep_facts hr hx).2.1
  rwa [hc] at this

theorem asks_side {c i : Int} (h : asks c i ≠ 0) : (rowAt c (asks c i)).2.2.2.1 ≠ 0 := by
  obtain ⟨r, hr, ha, hi, hc, hrep⟩ := asks_row h
  rw [ha, ← hc, row_of hr]
  have := List.all_eq_true.1 tab_side r hr
  simp only [Bool.and_eq_true, decide_eq_true_eq] at this
  omega

theorem reply_facts {c i x : Int} (h : x ∈ replies c i) : asks c x = i ∧ replies c x = [] ∧ opp (rowAt c i).2.2.2.1 (rowAt c x).2.2.2.1 = true := by
  obtain ⟨r, hr, hc, ho, hx0, hrep⟩ := mem_replies h
  have hx : x ∈ nz r.2.2.2.2.1 ++ nz r.2.2.2.2.2 := by
    rw [List.mem_append]
    rcases hrep with rfl | rfl
    · left; unfold nz; rw [if_neg hx0]; simp
    · right; unfold nz; rw [if_neg hx0]; simp
  have h1 := rep_facts hr hx
  have h2 := row_of hr
  rw [hc, ho] at h1 h2
  rw [h2]
  exact h1

theorem replies_law (G : Nat → Option (List V)) (c i n : Int) (H : Heap) : Call2 Go.Proofs.Try.prog G 7 [.int .i64 c, .int .i64 i, .int .i64 n] H fun v H' => H' = H ∧ v = .bool true := by
  refine Call2.free (int_free (vs := [c, i, n])) ?_ H
  refine stCall2 Go.Proofs.Try.func7 rfl (by decide) ?_
  conv => whnf
  refine (shown_ct G _).mono fun r0 H0 h => ?_
  obtain ⟨h1, h2⟩ := h
  rw [h1, h2]
  clear h1 h2 r0 H0
  conv => whnf
  refine (replies_ct G c i _).mono fun r0 H0 h => ?_
  obtain ⟨h1, h2⟩ := h
  rw [h1, h2]
  clear h1 h2 r0 H0
  conv => whnf
  refine (asks_ct G c i _).mono fun r0 H0 h => ?_
  obtain ⟨h1, h2⟩ := h
  rw [h1, h2]
  clear h1 h2 r0 H0
  by_cases ha : asks c i = 0
  · rw [ha]
    generalize hl : replies c i = l
    conv => whnf
    refine br_intro (fun hn => ?_) (fun hn => ?_)
    · conv => whnf
      exact ⟨.im _, rfl⟩
    rw [decide_eq_false_iff_not] at hn
    conv => whnf
    refine br_intro (fun hn2 => ?_) (fun hn2 => ?_)
    · conv => whnf
      exact ⟨.im _, rfl⟩
    have hn2' : decide (((ints l).length : Int) ≤ n) = false := hn2
    rw [decide_eq_false_iff_not, ints_len] at hn2'
    obtain ⟨j, rfl⟩ : ∃ j : Nat, n = (j : Int) := ⟨n.toNat, by omega⟩
    have hj : j < l.length := by omega
    obtain ⟨x, hx⟩ : ∃ x, l[j]? = some x := ⟨l[j], List.getElem?_eq_getElem hj⟩
    have hxm : x ∈ replies c i := by rw [hl]; exact List.mem_of_getElem? hx
    obtain ⟨f1, f2, f3⟩ := reply_facts hxm
    conv => whnf
    refine (side_ct G c i _).mono fun r0 H0 h => ?_
    obtain ⟨h1, h2⟩ := h
    rw [h1, h2]
    clear h1 h2 r0 H0
    conv => whnf
    refine grd_intro (by show (true && true && decide ((0 : Int) ≤ (j : Int))) = true; simp) ?_
    rw [show (ints l)[Int.toNat (j : Int)]? = some [.int .i64 x] from ints_get l j x hx]
    conv => whnf
    refine (side_ct G c x _).mono fun r0 H0 h => ?_
    obtain ⟨h1, h2⟩ := h
    rw [h1, h2]
    clear h1 h2 r0 H0
    have go : ∀ a b : Int, opp a b = true → (a = 1 ∧ b = 2) ∨ (a = 2 ∧ b = 1) ∨ (a = 3 ∧ b = 3) := by
      intro a b h
      simp only [opp, Bool.or_eq_true, Bool.and_eq_true, decide_eq_true_eq] at h
      omega
    generalize (rowAt c i).2.2.2.1 = sa at f3
    generalize (rowAt c x).2.2.2.1 = sb at f3
    rcases go sa sb f3 with ⟨rfl, rfl⟩ | ⟨rfl, rfl⟩ | ⟨rfl, rfl⟩
    all_goals
      conv => whnf
      refine grd_intro (by show (true && true && decide ((0 : Int) ≤ (j : Int))) = true; simp) ?_
      rw [show (ints l)[Int.toNat (j : Int)]? = some [.int .i64 x] from ints_get l j x hx]
      conv => whnf
      refine (asks_ct G c x _).mono fun r0 H0 h => ?_
      obtain ⟨h1, h2⟩ := h
      rw [h1, h2, f1]
      clear h1 h2 r0 H0
      conv => whnf
      refine br_intro (fun he => ?_) (fun he => ?_)
      · conv => whnf
        refine grd_intro (by show (true && true && decide ((0 : Int) ≤ (j : Int))) = true; simp) ?_
        rw [show (ints l)[Int.toNat (j : Int)]? = some [.int .i64 x] from ints_get l j x hx]
        conv => whnf
        refine (replies_ct G c x _).mono fun r0 H0 h => ?_
        obtain ⟨h1, h2⟩ := h
        rw [h1, h2, f2]
        conv => whnf
        exact ⟨.im _, rfl⟩
      · have he' : decide (i = i) = false := he
        simp at he'
  · rw [asks_no_replies ha]
    have hsd := asks_side ha
    generalize asks c i = a at ha hsd
    conv => whnf
    refine br_intro (fun h0 => ?_) (fun h0 => ?_)
    · conv => whnf
      refine (side_ct G c a _).mono fun r0 H0 h => ?_
      obtain ⟨h1, h2⟩ := h
      rw [h1, h2]
      clear h1 h2 r0 H0
      conv => whnf
      refine br_intro (fun hs => ?_) (fun hs => ?_)
      · have hs' : decide ((rowAt c a).2.2.2.1 = 0) = true := hs
        rw [decide_eq_true_eq] at hs'
        exact absurd hs' hsd
      conv => whnf
      refine br_intro (fun hn => ?_) (fun hn => ?_)
      · conv => whnf
        exact ⟨.im _, rfl⟩
      conv => whnf
      refine br_intro (fun hn2 => ?_) (fun hn2 => ?_)
      · conv => whnf
        exact ⟨.im _, rfl⟩
      rw [decide_eq_false_iff_not] at hn
      have hn2' : decide ((0 : Int) ≤ n) = false := hn2
      rw [decide_eq_false_iff_not] at hn2'
      omega
    · have h0' : decide (a ≠ 0) = false := h0
      rw [decide_eq_false_iff_not] at h0'
      exact absurd ha h0'
end Go.Abs.Sig
