/- The walks of some functions: what they compute. -/
import Derived.Test.YteklnflddoekfaaDoorM9
namespace Go.Abs.Sig
open Go.RowKit Go.Abs
set_option linter.unusedSimpArgs false
set_option linter.unusedVariables false
set_option maxRecDepth 8000
attribute [local irreducible] StCall StYield WPc Weak IterOf Call2 Lp2

theorem ents_text : ((zent :: ents).all fun r => decide (r.2.2.1.length ≤ 255)) = true := by decide +kernel
theorem ent_rng (e : Int) : 200 ≤ (entE e).2.1 ∧ (entE e).2.1 ≤ 541 ∧ (entE e).2.2.1.length ≤ 255 := by
  have hA := List.all_eq_true.1 ents_all _ (entE_mem e)
  simp only [Bool.and_eq_true, decide_eq_true_eq] at hA
  have hB := List.all_eq_true.1 ents_text _ (entE_mem e)
  simp only [decide_eq_true_eq] at hB
  exact ⟨hA.1.1.1, hA.1.1.2, hB⟩
set_option maxRecDepth 100000 in
theorem tab_rng : (tab.all fun r => decide (0 ≤ r.1) && decide (r.1 < 65536) && decide (0 ≤ r.2.1) && decide (r.2.1 < 65536)) = true := by decide
theorem at_key {c i : Int} (h : isAt c i = true) : (rowAt c i).1 = c ∧ (rowAt c i).2.1 = i := by
  unfold isAt at h
  unfold rowAt
  cases hf : tab.find? (pAt c i) with
  | none => rw [hf] at h; cases h
  | some r =>
    have := List.find?_some hf
    simp only [pAt, Bool.and_eq_true, decide_eq_true_eq] at this
    exact this
theorem at_rng {c i : Int} (h : isAt c i = true) : 0 ≤ c ∧ c < 65536 ∧ 0 ≤ i ∧ i < 65536 := by
  have h1 := List.all_eq_true.1 tab_rng _ (at_some h)
  simp only [Bool.and_eq_true, decide_eq_true_eq] at h1
  obtain ⟨k1, k2⟩ := at_key h
  rw [k1, k2] at h1
  omega
theorem or_zero {c i : Int} : 0 ≤ (if isAt c i then c else 0) ∧ (if isAt c i then c else 0) < 65536 ∧ 0 ≤ (if isAt c i then i else 0) ∧ (if isAt c i then i else 0) < 65536 := by
  cases h : isAt c i
  · simp
  · have := at_rng h
    simpa using this

theorem wr2_zero {a : Int} (h0 : 0 ≤ a) (h1 : a < 65536) : wr 2 (a, []) = 0 := by
  rw [wr2]
  have : decide (((a, []) : Val').1.fdiv (2 ^ 16) ≠ 0) = false := by
    rw [fdiv_pos h0 (by decide), decide_eq_false_iff_not]
    show ¬ 0 < a / 65536
    omega
  rw [this]
  rfl
theorem wt_zero {t : List UInt8} (h : t.length ≤ 255) : wt 255 (0, t) = 0 := by
  unfold wt
  have : decide ((((0, t) : Val').2.length : Int) > 255) = false := by
    rw [decide_eq_false_iff_not]
    show ¬ (t.length : Int) > 255
    omega
  rw [this]
  rfl
theorem vright_close (tb : Val' → Int) {a b d : Int} {t : List UInt8} (ha : 0 ≤ a ∧ a < 65536) (ht : t.length ≤ 255) (hb : 0 ≤ b ∧ b < 65536) (hd : 0 ≤ d ∧ d < 65536) : vright tb [115, 83, 115, 115] [(a, []), (0, t), (b, []), (d, [])] = 0 := by
  have e1 : ∀ {x : Int}, 0 ≤ x ∧ x < 65536 → rl tb 115 (x, []) = 0 := fun h => wr2_zero h.1 h.2
  have e2 : rl tb 83 (0, t) = 0 := wt_zero ht
  unfold vright
  rw [e1 ha]
  unfold vright
  rw [e2]
  unfold vright
  rw [e1 hb]
  unfold vright
  rw [e1 hd]
  rfl
theorem u64_id {n : Int} (h0 : 0 ≤ n) (h1 : n < 65536) : u64 n = n := wrap_u64 h0 (by omega)

theorem mright_close (tb : Val' → Int) (e c i : Int) : mright tb (closeM e c i) = 0 ∧ has2 (closeM e c i).1 (closeM e c i).2.1 = true ∧ (closeM e c i).2.2 = closeArgs e c i ∧ (¬ 84 ∈ (rowAt (closeM e c i).1 (closeM e c i).2.1).2.2.1) := by
  have hE := ent_rng e
  have hz := or_zero (c := c) (i := i)
  have hv : vright tb [115, 83, 115, 115] (closeArgs e c i) = 0 := by
    unfold closeArgs
    exact vright_close tb (by rw [u64_id (by omega) (by omega)]; omega) hE.2.2 (by rw [u64_id hz.1 hz.2.1]; omega) (by rw [u64_id hz.2.2.1 hz.2.2.2]; omega)
  have key : ∀ a b : Int, isAt a b = true → (rowAt a b).2.2.1 = [115, 83, 115, 115] → mright tb (a, b, closeArgs e c i) = 0 := fun a b h1 h2 => by
    unfold mright
    rw [show isAt (a, b, closeArgs e c i).1 (a, b, closeArgs e c i).2.1 = true from h1, show (rowAt (a, b, closeArgs e c i).1 (a, b, closeArgs e c i).2.1).2.2.1 = [115, 83, 115, 115] from h2]
    exact hv
  unfold closeM
  split
  · exact ⟨key 10 50 (by decide) (by decide), (show has2 10 50 = true from rfl), rfl, (show ¬ 84 ∈ (rowAt 10 50).2.2.1 by decide)⟩
  · exact ⟨key 20 40 (by decide) (by decide), (show has2 20 40 = true from rfl), rfl, (show ¬ 84 ∈ (rowAt 20 40).2.2.1 by decide)⟩
theorem close_rng (e c i : Int) : ∀ v ∈ (closeM e c i).2.2, Rng v := by
  rw [(mright_close (fun _ => 0) e c i).2.2.1]
  intro v hv
  have hE := ent_rng e
  have hz := or_zero (c := c) (i := i)
  simp only [closeArgs, List.mem_cons, List.not_mem_nil, or_false] at hv
  rcases hv with rfl | rfl | rfl | rfl
  · show 0 ≤ u64 _ ∧ u64 _ < _
    rw [u64_id (by omega) (by omega)]; omega
  · exact ⟨Int.le_refl 0, (by decide : (0 : Int) < 18446744073709551616)⟩
  · show 0 ≤ u64 _ ∧ u64 _ < _
    rw [u64_id hz.1 hz.2.1]; omega
  · show 0 ≤ u64 _ ∧ u64 _ < _
    rw [u64_id hz.2.2.1 hz.2.2.2]; omega

theorem closes_close (tb : Val' → Int) (e c i : Int) : ccloses tb (closeM e c i) = true := by
  unfold ccloses
  rw [(mright_close tb e c i).1, (mright_close tb e c i).2.1]
  rfl

theorem told_close (e c i : Int) : mTold (closeM e c i) = ((entE e).2.1, (entE e).2.2.1) := by
  have hE := ent_rng e
  unfold mTold
  rw [(mright_close (fun _ => 0) e c i).2.2.1]
  unfold closeArgs
  show (IntKind.i64.wrap (u64 (entE e).2.1), (entE e).2.2.1) = _
  rw [u64_id (by omega) (by omega), wrap_i64 (by omega) (by omega)]
theorem done_close (tb : Val' → Int) (e c i : Int) : mright tb (mDone (closeM e c i)) = 0 ∧ (¬ 84 ∈ (rowAt (mDone (closeM e c i)).1 (mDone (closeM e c i)).2.1).2.2.1) := by
  unfold closeM
  split
  · have h : mDone (10, 50, closeArgs e c i) = (10, 51, []) := rfl
    rw [h]
    refine ⟨?_, (show ¬ 84 ∈ (rowAt 10 51).2.2.1 by decide)⟩
    show (if !isAt 10 51 || decide (((rowAt 10 51).2.2.1.length : Int) ≠ (([] : List Val').length : Int)) then 7 else vright tb (rowAt 10 51).2.2.1 []) = 0
    rw [show isAt 10 51 = true from by decide, show (rowAt 10 51).2.2.1 = [] from by decide]
    rfl
  · have h : mDone (20, 40, closeArgs e c i) = (20, 41, []) := rfl
    rw [h]
    refine ⟨?_, (show ¬ 84 ∈ (rowAt 20 41).2.2.1 by decide)⟩
    show (if !isAt 20 41 || decide (((rowAt 20 41).2.2.1.length : Int) ≠ (([] : List Val').length : Int)) then 7 else vright tb (rowAt 20 41).2.2.1 []) = 0
    rw [show isAt 20 41 = true from by decide, show (rowAt 20 41).2.2.1 = [] from by decide]
    rfl
theorem right_law (e c i : Int) (H : Heap) : Call2 Go.Proofs.Tryd.prog GC 5 [.int .i64 e, .int .i64 c, .int .i64 i] H fun v H' => H' = H ∧ v = .bool true := by
  refine Call2.free (int_free (vs := [e, c, i])) ?_ H
  have tb : Val' → Int := fun _ => 0
  obtain ⟨h1, h2, h3, h4⟩ := mright_close tb e c i
  have hcl := closes_close tb e c i
  have hrg := close_rng e c i
  have hE := ent_rng e
  have htold := told_close e c i
  obtain ⟨hd1, hd2⟩ := done_close tb e c i
  have hm : closeM e c i = if (entC (entE e).2.1).2.2.2 then (10, 50, closeArgs e c i) else (20, 40, closeArgs e c i) := rfl
  refine stCall2 Go.Proofs.Tryd.func5 rfl (by decide) ?_
  conv => whnf
  refine Call2.mono (cshown_ct _) fun r0 H0 h => ?_
  obtain ⟨h1, h2⟩ := h
  rw [h1, h2]
  clear h1 h2 r0 H0
  conv => whnf
  refine Call2.mono (close_ct e c i _) fun r0 H0 h => ?_
  obtain ⟨h1, h2⟩ := h
  rw [h1, h2]
  clear h1 h2 r0 H0
  conv => whnf
  generalize hM : closeM e c i = m at *
  refine Call2.mono (cof_ct e _) fun r0 H0 h => ?_
  obtain ⟨h1, h2⟩ := h
  rw [h1, h2]
  clear h1 h2 r0 H0
  conv => whnf
  refine Call2.mono (ctold_ct GC tb m (fun h => absurd h h4) (fun _ => by rw [h3]; exact Nat.le_of_ble_eq_true rfl) _) fun r0 H0 h => ?_
  obtain ⟨h1, h2⟩ := h
  rw [h1, h2]
  clear h1 h2 r0 H0
  conv => whnf
  rw [hcl]
  conv => whnf
  refine Call2.mono (cdone_ct GC tb m (fun h => absurd h h4) _) fun r0 H0 h => ?_
  obtain ⟨h1, h2⟩ := h
  rw [h1, h2]
  clear h1 h2 r0 H0
  conv => whnf
  rw [hcl]
  conv => whnf
  refine Call2.mono (rright_ct GC tb m h4 hrg _) fun r0 H0 h => ?_
  obtain ⟨h1, h2⟩ := h
  rw [h1, h2]
  clear h1 h2 r0 H0
  conv => whnf
  refine br_t (by show bsel true (decide (mright tb m = 0)) false = true; rw [h1]; rfl) ?_
  conv => whnf
  rw [htold]
  refine br_t (by show bsel true (decide ((entE e).2.1 = (entE e).2.1)) false = true; simp [bsel]) ?_
  conv => whnf
  refine br_t (by show bsel true (decide ((entE e).2.2.1 = (entE e).2.2.1)) false = true; simp [bsel]) ?_
  conv => whnf
  refine Call2.mono (rright_ct GC tb (mDone m) hd2 (fun v hv => by cases hv) _) fun r0 H0 h => ?_
  obtain ⟨h1, h2⟩ := h
  rw [h1, h2]
  clear h1 h2 r0 H0
  conv => whnf
  refine br_t (by show bsel true (decide (mright tb (mDone m) = 0)) false = true; rw [hd1]; rfl) ?_
  conv => whnf
  refine Call2.mono (chard_ct _ _) fun r0 H0 h => ?_
  obtain ⟨h1, h2⟩ := h
  rw [h1, h2]
  clear h1 h2 r0 H0
  conv => whnf
  have hconn : (decide (m.1 = 10) == (entC (entE e).2.1).2.2.2) = true := by
    rw [hm]
    cases (entC (entE e).2.1).2.2.2 <;> rfl
  refine br_t (by show bsel true (decide (m.1 = 10) == (entC (entE e).2.1).2.2.2) false = true; rw [hconn]; rfl) ?_
  conv => whnf
  refine ⟨.im _, ?_⟩
  show V.bool (bsel true (decide (m.1 = m.1)) false) = V.bool true
  simp [bsel]
end Go.Abs.Sig
