/- The walks of some functions: what they compute. -/
import Derived.Test.YteklnflddoekfaaDoorM7
namespace Go.Abs.Sig
open Go.RowKit Go.Abs
set_option linter.unusedSimpArgs false
set_option linter.unusedVariables false
set_option maxRecDepth 8000
attribute [local irreducible] StCall StYield WPc Weak IterOf Call2 Lp2

def Rng (v : Val') : Prop := 0 ≤ v.1 ∧ v.1 < 18446744073709551616

theorem wrap_u64 {n : Int} (h0 : 0 ≤ n) (h1 : n < 18446744073709551616) : IntKind.u64.wrap n = n := by
  simp only [IntKind.wrap, IntKind.bits, IntKind.signed]
  simp
  omega

theorem putL_fst : ∀ (k : Nat) (v : Int) (s : List UInt8), 0 ≤ v → v < 18446744073709551616 → (putL k v s).1 = v / (256 ^ k : Int)
  | 0, v, s, _, _ => by simp [putL]
  | k + 1, v, s, h0, h1 => by
    have ht : v.tdiv 256 = v / 256 := Int.tdiv_eq_ediv_of_nonneg h0
    have hw : IntKind.u64.wrap (v.tdiv 256) = v / 256 := by rw [ht]; exact wrap_u64 (by omega) (by omega)
    unfold putL
    rw [hw, putL_fst k _ _ (by omega) (by omega), Int.ediv_ediv_of_nonneg (by omega), Int.pow_succ, Int.mul_comm]

theorem rput_bad {n : Nat} {v : Val'} (hv : Rng v) : decide ((rput n v.1).2 ≠ 0) = decide (0 < v.1 / (256 ^ n : Int)) := by
  unfold rput
  rw [putL_fst n v.1 [] hv.1 hv.2]
  split
  · rename_i h
    rw [h]; rfl
  · rename_i h
    simp only [Bool.not_eq_true] at h
    rw [h]; rfl
theorem fdiv_pos {a b : Int} (ha : 0 ≤ a) (hb : 0 < b) : decide (a.fdiv b ≠ 0) = decide (0 < a / b) := by
  rw [Int.fdiv_eq_ediv_of_nonneg _ (by omega), decide_eq_decide]
  have := Int.ediv_nonneg ha (Int.le_of_lt hb)
  omega

theorem len_pos (l : List UInt8) : decide ((0 : Int) < (l.length : Int)) = decide (l ≠ []) := by
  cases l with
  | nil => rfl
  | cons a l => simp
theorem wr1 (v : Val') : wr 1 v = if decide (v.1.fdiv (2 ^ 8) ≠ 0) then 4 else if decide (v.2 ≠ []) then 1 else 0 := by
  unfold wr
  rw [show (8 * (1 : Int)).toNat = 8 from rfl]
  rfl
theorem wr2 (v : Val') : wr 2 v = if decide (v.1.fdiv (2 ^ 16) ≠ 0) then 4 else if decide (v.2 ≠ []) then 1 else 0 := by
  unfold wr
  rw [show (8 * (2 : Int)).toNat = 16 from rfl]
  rfl
theorem wr4 (v : Val') : wr 4 v = if decide (v.1.fdiv (2 ^ 32) ≠ 0) then 4 else if decide (v.2 ≠ []) then 1 else 0 := by
  unfold wr
  rw [show (8 * (4 : Int)).toNat = 32 from rfl]
  rfl
theorem wr8 (v : Val') : wr 8 v = if decide (v.2 ≠ []) then 1 else 0 := rfl
theorem bad1 {v : Val'} (hv : Rng v) : decide (v.1.fdiv (2 ^ 8) ≠ 0) = decide ((rput 1 v.1).2 ≠ 0) := by rw [rput_bad hv, fdiv_pos hv.1 (by decide)]; rfl
theorem bad2 {v : Val'} (hv : Rng v) : decide (v.1.fdiv (2 ^ 16) ≠ 0) = decide ((rput 2 v.1).2 ≠ 0) := by rw [rput_bad hv, fdiv_pos hv.1 (by decide)]; rfl
theorem bad4 {v : Val'} (hv : Rng v) : decide (v.1.fdiv (2 ^ 32) ≠ 0) = decide ((rput 4 v.1).2 ≠ 0) := by rw [rput_bad hv, fdiv_pos hv.1 (by decide)]; rfl
theorem bad8 {v : Val'} (hv : Rng v) : decide ((rput 8 v.1).2 ≠ 0) = false := by
  rw [rput_bad hv, decide_eq_false_iff_not]
  have := hv.1
  have := hv.2
  omega
theorem rval_ct (G : Nat → Option (List V)) (tb : Val' → Int) (c : UInt8) (hc : c = 111 ∨ c = 115 ∨ c = 108 ∨ c = 113 ∨ c = 98 ∨ c = 83 ∨ c = 76) (v : Val') (hv : Rng v) (H : Heap) :
    Call2 Go.Proofs.Tryd.prog G 40 [.int .u8 (c.toNat : Int), .agg (vcells v)] H fun r H' => H' = H ∧ r = .int .i64 (rl tb c v) := by
  refine Call2.free (fun x hx => by
    simp only [List.mem_cons, List.not_mem_nil, or_false] at hx
    rcases hx with rfl | rfl
    · exact .im _
    · exact vcells_free v) ?_ H
  refine stCall2 Go.Proofs.Tryd.func40 rfl (by decide) ?_
  rcases hc with rfl | rfl | rfl | rfl | rfl | rfl | rfl
  · have hr : rl tb 111 v = wr 1 v := rfl
    rw [hr, wr1, bad1 hv]
    conv => whnf
    refine Call2.mono (rwidth_ct G 111 _) fun r0 H0 h => ?_
    obtain ⟨h1, h2⟩ := h
    rw [h1, h2]
    clear h1 h2 r0 H0
    conv => whnf
    refine Call2.mono (rput_ct G 1 (by simp) v.1 _) fun r0 H0 h => ?_
    obtain ⟨h1, h2⟩ := h
    rw [h1, h2]
    clear h1 h2 r0 H0
    conv => whnf
    refine br_intro (fun h => ?_) (fun h => ?_)
    · have h' : decide ((rput 1 v.1).2 ≠ 0) = true := h
      rw [h']
      conv => whnf
      exact ⟨.im _, rfl⟩
    · have h' : decide ((rput 1 v.1).2 ≠ 0) = false := h
      rw [h']
      rw [← len_pos]
      conv => whnf
      refine br_intro (fun h2 => ?_) (fun h2 => ?_)
      · have h2' : decide ((0 : Int) < (v.2.length : Int)) = true := h2
        rw [h2']
        conv => whnf
        exact ⟨.im _, rfl⟩
      · have h2' : decide ((0 : Int) < (v.2.length : Int)) = false := h2
        rw [h2']
        conv => whnf
        exact ⟨.im _, rfl⟩
  · have hr : rl tb 115 v = wr 2 v := rfl
    rw [hr, wr2, bad2 hv]
    conv => whnf
    refine Call2.mono (rwidth_ct G 115 _) fun r0 H0 h => ?_
    obtain ⟨h1, h2⟩ := h
    rw [h1, h2]
    clear h1 h2 r0 H0
    conv => whnf
    refine Call2.mono (rput_ct G 2 (by simp) v.1 _) fun r0 H0 h => ?_
    obtain ⟨h1, h2⟩ := h
    rw [h1, h2]
    clear h1 h2 r0 H0
    conv => whnf
    refine br_intro (fun h => ?_) (fun h => ?_)
    · have h' : decide ((rput 2 v.1).2 ≠ 0) = true := h
      rw [h']
      conv => whnf
      exact ⟨.im _, rfl⟩
    · have h' : decide ((rput 2 v.1).2 ≠ 0) = false := h
      rw [h']
      rw [← len_pos]
      conv => whnf
      refine br_intro (fun h2 => ?_) (fun h2 => ?_)
      · have h2' : decide ((0 : Int) < (v.2.length : Int)) = true := h2
        rw [h2']
        conv => whnf
        exact ⟨.im _, rfl⟩
      · have h2' : decide ((0 : Int) < (v.2.length : Int)) = false := h2
        rw [h2']
        conv => whnf
        exact ⟨.im _, rfl⟩
  · have hr : rl tb 108 v = wr 4 v := rfl
    rw [hr, wr4, bad4 hv]
    conv => whnf
    refine Call2.mono (rwidth_ct G 108 _) fun r0 H0 h => ?_
    obtain ⟨h1, h2⟩ := h
    rw [h1, h2]
    clear h1 h2 r0 H0
    conv => whnf
    refine Call2.mono (rput_ct G 4 (by simp) v.1 _) fun r0 H0 h => ?_
    obtain ⟨h1, h2⟩ := h
    rw [h1, h2]
    clear h1 h2 r0 H0
    conv => whnf
    refine br_intro (fun h => ?_) (fun h => ?_)
    · have h' : decide ((rput 4 v.1).2 ≠ 0) = true := h
      rw [h']
      conv => whnf
      exact ⟨.im _, rfl⟩
    · have h' : decide ((rput 4 v.1).2 ≠ 0) = false := h
      rw [h']
      rw [← len_pos]
      conv => whnf
      refine br_intro (fun h2 => ?_) (fun h2 => ?_)
      · have h2' : decide ((0 : Int) < (v.2.length : Int)) = true := h2
        rw [h2']
        conv => whnf
        exact ⟨.im _, rfl⟩
      · have h2' : decide ((0 : Int) < (v.2.length : Int)) = false := h2
        rw [h2']
        conv => whnf
        exact ⟨.im _, rfl⟩
  · have hr : rl tb 113 v = wr 8 v := rfl
    rw [hr, wr8]
    conv => whnf
    refine Call2.mono (rwidth_ct G 113 _) fun r0 H0 h => ?_
    obtain ⟨h1, h2⟩ := h
    rw [h1, h2]
    clear h1 h2 r0 H0
    conv => whnf
    refine Call2.mono (rput_ct G 8 (by simp) v.1 _) fun r0 H0 h => ?_
    obtain ⟨h1, h2⟩ := h
    rw [h1, h2]
    clear h1 h2 r0 H0
    conv => whnf
    refine br_f (bad8 hv) ?_
    rw [← len_pos]
    conv => whnf
    refine br_intro (fun h2 => ?_) (fun h2 => ?_)
    · have h2' : decide ((0 : Int) < (v.2.length : Int)) = true := h2
      rw [h2']
      conv => whnf
      exact ⟨.im _, rfl⟩
    · have h2' : decide ((0 : Int) < (v.2.length : Int)) = false := h2
      rw [h2']
      conv => whnf
      exact ⟨.im _, rfl⟩
  · have hr : rl tb 98 v = if decide (1 < v.1) then 4 else if decide (v.2 ≠ []) then 1 else 0 := by
      show wr 0 v = _
      unfold wr
      cases decide (1 < v.1) <;> rfl
    rw [hr]
    conv => whnf
    refine Call2.mono (rwidth_ct G 98 _) fun r0 H0 h => ?_
    obtain ⟨h1, h2⟩ := h
    rw [h1, h2]
    clear h1 h2 r0 H0
    conv => whnf
    refine br_intro (fun h => ?_) (fun h => ?_)
    · have h' : decide (1 < v.1) = true := h
      rw [h']
      conv => whnf
      exact ⟨.im _, rfl⟩
    · have h' : decide (1 < v.1) = false := h
      rw [h']
      rw [← len_pos]
      conv => whnf
      refine br_intro (fun h2 => ?_) (fun h2 => ?_)
      · have h2' : decide ((0 : Int) < (v.2.length : Int)) = true := h2
        rw [h2']
        conv => whnf
        exact ⟨.im _, rfl⟩
      · have h2' : decide ((0 : Int) < (v.2.length : Int)) = false := h2
        rw [h2']
        conv => whnf
        exact ⟨.im _, rfl⟩
  · have hr : rl tb 83 v = wt 255 v := rfl
    rw [hr]
    unfold wt
    conv => whnf
    refine Call2.mono (rwidth_ct G 83 _) fun r0 H0 h => ?_
    obtain ⟨h1, h2⟩ := h
    rw [h1, h2]
    clear h1 h2 r0 H0
    conv => whnf
    refine br_intro (fun h => ?_) (fun h => ?_)
    · have h' : decide ((v.2.length : Int) > _) = true := h
      rw [h']
      conv => whnf
      exact ⟨.im _, rfl⟩
    · have h' : decide ((v.2.length : Int) > _) = false := h
      rw [h']
      conv => whnf
      refine br_intro (fun h2 => ?_) (fun h2 => ?_)
      · have h2' : decide (v.1 ≠ 0) = true := h2
        rw [h2']
        conv => whnf
        exact ⟨.im _, rfl⟩
      · have h2' : decide (v.1 ≠ 0) = false := h2
        rw [h2']
        conv => whnf
        exact ⟨.im _, rfl⟩
  · have hr : rl tb 76 v = wt 131072 v := rfl
    rw [hr]
    unfold wt
    conv => whnf
    refine Call2.mono (rwidth_ct G 76 _) fun r0 H0 h => ?_
    obtain ⟨h1, h2⟩ := h
    rw [h1, h2]
    clear h1 h2 r0 H0
    conv => whnf
    refine br_intro (fun h => ?_) (fun h => ?_)
    · have h' : decide ((v.2.length : Int) > _) = true := h
      rw [h']
      conv => whnf
      exact ⟨.im _, rfl⟩
    · have h' : decide ((v.2.length : Int) > _) = false := h
      rw [h']
      conv => whnf
      refine br_intro (fun h2 => ?_) (fun h2 => ?_)
      · have h2' : decide (v.1 ≠ 0) = true := h2
        rw [h2']
        conv => whnf
        exact ⟨.im _, rfl⟩
      · have h2' : decide (v.1 ≠ 0) = false := h2
        rw [h2']
        conv => whnf
        exact ⟨.im _, rfl⟩
end Go.Abs.Sig
