/- The walks of some functions: what they compute. -/
import Derived.Test.YteklnflddoekfaaDoorM3
namespace Go.Abs.Sig
open Go.RowKit Go.Abs
set_option linter.unusedSimpArgs false
set_option linter.unusedVariables false
set_option maxRecDepth 8000
attribute [local irreducible] StCall StYield WPc Weak IterOf Call2

def vcells (v : Val') : List V := [.int .u64 v.1, .str v.2]
theorem vcells_free' (v : Val') : ∀ x ∈ vcells v, x.Free := fun x hx => by
  simp only [vcells, List.mem_cons, List.not_mem_nil, or_false] at hx
  rcases hx with rfl | rfl
  · exact .im _
  · exact .str _
theorem vcells_free (v : Val') : (V.agg (vcells v)).Free := .agg _ (vcells_free' v)

/-- Is a value such a number? -/
def wr (n : Int) (v : Val') : Int :=
  if (decide (n = 0) && decide (1 < v.1)) || (decide (0 < n) && (decide (n < 8) && decide (v.1.fdiv (2 ^ (8 * n).toNat) ≠ 0))) then 4 else if decide (v.2 ≠ []) then 1 else 0

theorem wright_ct (G : Nat → Option (List V)) (b n : Int) (hn : isW b n) (v : Val') (H : Heap) : Call2 Go.Proofs.Tryd.prog G 62 [.int .i64 n, .agg (vcells v)] H fun r H' => H' = H ∧ r = .int .i64 (wr n v) := by
  refine Call2.free (fun x hx => by
    simp only [List.mem_cons, List.not_mem_nil, or_false] at hx
    rcases hx with rfl | rfl
    · exact .im _
    · exact vcells_free v) ?_ H
  refine stCall2 Go.Proofs.Tryd.func62 rfl (by decide) ?_
  have hn' : n = 1 ∨ n = 2 ∨ n = 4 ∨ n = 8 ∨ n = 0 := by unfold isW at hn; omega
  rcases hn' with rfl | rfl | rfl | rfl | rfl
  · conv => whnf
    refine ⟨by decide, ?_⟩
    conv => whnf
    refine br_intro (fun h => ?_) (fun h => ?_)
    · have h' : decide (v.1.fdiv (2 ^ 8) ≠ 0) = true := h
      have e : wr 1 v = 4 := by
        unfold wr
        rw [show (8 * (1 : Int)).toNat = 8 from rfl, h']
        rfl
      rw [e]
      conv => whnf
      exact ⟨.im _, rfl⟩
    · have h' : decide (v.1.fdiv (2 ^ 8) ≠ 0) = false := h
      have e : wr 1 v = if decide (v.2 ≠ []) then 1 else 0 := by
        unfold wr
        rw [show (8 * (1 : Int)).toNat = 8 from rfl, h']
        rfl
      rw [e]
      conv => whnf
      refine br_intro (fun h2 => ?_) (fun h2 => ?_)
      · have h2' : decide (v.2 ≠ []) = true := h2
        rw [h2']
        conv => whnf
        exact ⟨.im _, rfl⟩
      · have h2' : decide (v.2 ≠ []) = false := h2
        rw [h2']
        conv => whnf
        exact ⟨.im _, rfl⟩
  · conv => whnf
    refine ⟨by decide, ?_⟩
    conv => whnf
    refine br_intro (fun h => ?_) (fun h => ?_)
    · have h' : decide (v.1.fdiv (2 ^ 16) ≠ 0) = true := h
      have e : wr 2 v = 4 := by
        unfold wr
        rw [show (8 * (2 : Int)).toNat = 16 from rfl, h']
        rfl
      rw [e]
      conv => whnf
      exact ⟨.im _, rfl⟩
    · have h' : decide (v.1.fdiv (2 ^ 16) ≠ 0) = false := h
      have e : wr 2 v = if decide (v.2 ≠ []) then 1 else 0 := by
        unfold wr
        rw [show (8 * (2 : Int)).toNat = 16 from rfl, h']
        rfl
      rw [e]
      conv => whnf
      refine br_intro (fun h2 => ?_) (fun h2 => ?_)
      · have h2' : decide (v.2 ≠ []) = true := h2
        rw [h2']
        conv => whnf
        exact ⟨.im _, rfl⟩
      · have h2' : decide (v.2 ≠ []) = false := h2
        rw [h2']
        conv => whnf
        exact ⟨.im _, rfl⟩
  · conv => whnf
    refine ⟨by decide, ?_⟩
    conv => whnf
    refine br_intro (fun h => ?_) (fun h => ?_)
    · have h' : decide (v.1.fdiv (2 ^ 32) ≠ 0) = true := h
      have e : wr 4 v = 4 := by
        unfold wr
        rw [show (8 * (4 : Int)).toNat = 32 from rfl, h']
        rfl
      rw [e]
      conv => whnf
      exact ⟨.im _, rfl⟩
    · have h' : decide (v.1.fdiv (2 ^ 32) ≠ 0) = false := h
      have e : wr 4 v = if decide (v.2 ≠ []) then 1 else 0 := by
        unfold wr
        rw [show (8 * (4 : Int)).toNat = 32 from rfl, h']
        rfl
      rw [e]
      conv => whnf
      refine br_intro (fun h2 => ?_) (fun h2 => ?_)
      · have h2' : decide (v.2 ≠ []) = true := h2
        rw [h2']
        conv => whnf
        exact ⟨.im _, rfl⟩
      · have h2' : decide (v.2 ≠ []) = false := h2
        rw [h2']
        conv => whnf
        exact ⟨.im _, rfl⟩
  · have e : wr 8 v = if decide (v.2 ≠ []) then 1 else 0 := rfl
    rw [e]
    conv => whnf
    refine br_intro (fun h2 => ?_) (fun h2 => ?_)
    · have h2' : decide (v.2 ≠ []) = true := h2
      rw [h2']
      conv => whnf
      exact ⟨.im _, rfl⟩
    · have h2' : decide (v.2 ≠ []) = false := h2
      rw [h2']
      conv => whnf
      exact ⟨.im _, rfl⟩
  · conv => whnf
    refine br_intro (fun h => ?_) (fun h => ?_)
    · have h' : decide (1 < v.1) = true := h
      have e : wr 0 v = 4 := by
        unfold wr
        rw [h']
        rfl
      rw [e]
      conv => whnf
      exact ⟨.im _, rfl⟩
    · have h' : decide (1 < v.1) = false := h
      have e : wr 0 v = if decide (v.2 ≠ []) then 1 else 0 := by
        unfold wr
        rw [h']
        rfl
      rw [e]
      conv => whnf
      refine br_intro (fun h2 => ?_) (fun h2 => ?_)
      · have h2' : decide (v.2 ≠ []) = true := h2
        rw [h2']
        conv => whnf
        exact ⟨.im _, rfl⟩
      · have h2' : decide (v.2 ≠ []) = false := h2
        rw [h2']
        conv => whnf
        exact ⟨.im _, rfl⟩

/-- Is a value such a text (no table)? -/
def wt (n : Int) (v : Val') : Int := if decide ((v.2.length : Int) > n) then 4 else if decide (v.1 ≠ 0) then 1 else 0

theorem wtext_ct (G : Nat → Option (List V)) (n : Int) (hn : n = 255 ∨ n = 131072) (v : Val') (H : Heap) : Call2 Go.Proofs.Tryd.prog G 63 [.int .i64 n, .agg (vcells v)] H fun r H' => H' = H ∧ r = .int .i64 (wt n v) := by
  refine Call2.free (fun x hx => by
    simp only [List.mem_cons, List.not_mem_nil, or_false] at hx
    rcases hx with rfl | rfl
    · exact .im _
    · exact vcells_free v) ?_ H
  refine stCall2 Go.Proofs.Tryd.func63 rfl (by decide) ?_
  unfold wt
  rcases hn with rfl | rfl
  all_goals
    conv => whnf
    refine br_intro (fun h => ?_) (fun h => ?_)
    · have h' : decide ((v.2.length : Int) > _) = true := h
      rw [h']
      conv => whnf
      exact ⟨.im _, rfl⟩
    · have h' : decide ((v.2.length : Int) > _) = false := h
      rw [h']
      conv => whnf
      refine br_intro (fun h2 => ?_) (fun h2 => ?_)
      · have h2' : decide (v.1 ≠ 0) = true := h2
        rw [h2']
        conv => whnf
        exact ⟨.im _, rfl⟩
      · have h2' : decide (v.1 ≠ 0) = false := h2
        rw [h2']
        conv => whnf
        exact ⟨.im _, rfl⟩

theorem get_old {H : Heap} {X : Heap} {i : Nat} {b : Option Blk} (h : H[i]? = some b) : (H ++ X)[i]? = some b := by
  rw [List.getElem?_append_left (List.getElem?_eq_some_iff.1 h).1]; exact h

theorem fW_ct (G : Nat → Option (List V)) (b n : Int) (hn : isW b n) (v : Val') (q : Nat) (H : Heap) (h1 : H[1]? = some (some (.cells 109 [.fn (.func 62) [] []]))) (hq : H[q]? = some (cW n)) :
    Call2 Go.Proofs.Tryd.prog G 64 [.agg (vcells v), .ptr 1 0, .ptr q 0] H fun r H' => H' = H ∧ r = .int .i64 (wr n v) := by
  refine Call2.inScope ⟨_, Go.Proofs.Tryd.func64, rfl, by decide⟩ fun hs => ?_
  refine Call2.cut ?_
  refine stCall2 Go.Proofs.Tryd.func64 rfl (by decide) ?_
  conv => whnf
  rw [get_old h1]
  conv => whnf
  rw [get_old hq]
  conv => whnf
  try simp only [List.append_assoc, List.cons_append, List.nil_append, List.length_append, List.length_cons, List.length_nil, Nat.zero_add, Nat.add_assoc, Nat.reduceAdd, ga0, ga1, ga2, ga3, ga4, ga5, sa0, sa1, sa2, sa3, sa4, sa5, S2.setH_H, List.all_cons, List.all_nil, isDefd, nodupB, List.any_nil, Bool.and_true, Bool.not_false, List.foldl_cons, List.foldl_nil]
  conv => whnf
  refine Call2.mono (wright_ct G b n hn v _) fun r0 H0 h => ?_
  obtain ⟨h1, h2⟩ := h
  rw [h1, h2]
  clear h1 h2 r0 H0
  conv => whnf
  exact ⟨_, Cut.app (X := [some (.cells 32 (vcells v))]) hs rfl, .im _, rfl, rfl⟩

theorem fT_ct (G : Nat → Option (List V)) (n : Int) (hn : n = 255 ∨ n = 131072) (v : Val') (q : Nat) (H : Heap) (h1 : H[2]? = some (some (.cells 110 [.fn (.func 63) [] []]))) (hq : H[q]? = some (cT n)) :
    Call2 Go.Proofs.Tryd.prog G 66 [.agg (vcells v), .ptr 2 0, .ptr q 0] H fun r H' => H' = H ∧ r = .int .i64 (wt n v) := by
  refine Call2.inScope ⟨_, Go.Proofs.Tryd.func66, rfl, by decide⟩ fun hs => ?_
  refine Call2.cut ?_
  refine stCall2 Go.Proofs.Tryd.func66 rfl (by decide) ?_
  conv => whnf
  rw [get_old h1]
  conv => whnf
  rw [get_old hq]
  conv => whnf
  try simp only [List.append_assoc, List.cons_append, List.nil_append, List.length_append, List.length_cons, List.length_nil, Nat.zero_add, Nat.add_assoc, Nat.reduceAdd, ga0, ga1, ga2, ga3, ga4, ga5, sa0, sa1, sa2, sa3, sa4, sa5, S2.setH_H, List.all_cons, List.all_nil, isDefd, nodupB, List.any_nil, Bool.and_true, Bool.not_false, List.foldl_cons, List.foldl_nil]
  conv => whnf
  refine Call2.mono (wtext_ct G n hn v _) fun r0 H0 h => ?_
  obtain ⟨h1, h2⟩ := h
  rw [h1, h2]
  clear h1 h2 r0 H0
  conv => whnf
  exact ⟨_, Cut.app (X := [some (.cells 32 (vcells v))]) hs rfl, .im _, rfl, rfl⟩
end Go.Abs.Sig
