/- The walks of some functions: what they compute. -/
import Derived.Test.YteklnflddoekfaaDoorM5
namespace Go.Abs.Sig
open Go.RowKit Go.Abs
set_option linter.unusedSimpArgs false
set_option linter.unusedVariables false
set_option maxRecDepth 8000
attribute [local irreducible] StCall StYield WPc Weak IterOf Call2 Lp2

def two (a b : Int) : List V := [.int .i64 a, .int .i64 b]
def bothR : List (List V) := [two 10 50, two 20 40]
theorem two_free (a b : Int) : (V.agg (two a b)).Free := .agg _ fun v hv => by
  simp only [two, List.mem_cons, List.not_mem_nil, or_false] at hv
  rcases hv with rfl | rfl <;> exact .im _
def idx2 (a b : Int) : Int := if decide (a = 10) && decide (b = 50) then 0 else if decide (a = 20) && decide (b = 40) then 1 else -1
def ixS (a b : Int) (j : Int) : S2 := headS 19 ([.dat 2 bothR .tight, .bad, .bad, .ptr 0 0, .bad, .bad, .bad, .int .i64 2, .int .i64 j] ++ List.replicate 10 .bad) [some (.cells 98 (two a b))] [] none

theorem idx2_ct (G : Nat → Option (List V)) (a b : Int) (H : Heap) : Call2 Go.Proofs.Tryd.prog G 79 [.dat 2 bothR .tight, .agg (two a b)] H fun r H' => H' = H ∧ r = .int .i64 (idx2 a b) := by
  refine Call2.free (fun x hx => by
    simp only [List.mem_cons, List.not_mem_nil, or_false] at hx
    rcases hx with rfl | rfl
    · exact .dat _ _ _ (by simp)
    · exact two_free a b) ?_ H
  refine stCall2 Go.Proofs.Tryd.func79 rfl (by decide) ?_
  unfold idx2
  conv => whnf
  intro hw
  refine wpc_unroll (n := 19) ?_
  refine lp2_round hw rfl ?_
  conv => whnf
  intro hw1
  refine wpc_draw2 6 (by rfl) (by decide) (by decide) hw1 ?_
  conv => whnf
  refine br_intro (fun h => ?_) (fun h => ?_)
  · have h' : (decide (a = 10) && decide (b = 50)) = true := by
      have : (decide (a = 10) && (decide (b = 50) && true)) = true := h
      simpa using this
    rw [h']
    conv => whnf
    exact ⟨.im _, rfl⟩
  have h' : (decide (a = 10) && decide (b = 50)) = false := by
    have : (decide (a = 10) && (decide (b = 50) && true)) = false := h
    simpa using this
  rw [h']
  conv => whnf
  intro hw2
  refine ⟨ixS a b 1, ?_, Nat.le_refl _, ?_⟩
  · exact weak2 hw2 rfl ⟨.dat _ _ _, .ptr 0 0 (of_decide_eq_true rfl), .im _, .im _, trivial⟩ (.cons (okB_bw (b := some (.cells 98 (two a b))) rfl) (.nil _)) (fun id hid => by cases hid) rfl (fun id hid => by cases hid)
  refine lp2_round ⟨Nat.le_refl 19, fun x hx => by cases hx⟩ rfl ?_
  conv => whnf
  intro hw3
  refine wpc_draw2 6 (by rfl) (by decide) (by decide) hw3 ?_
  conv => whnf
  refine br_intro (fun h => ?_) (fun h => ?_)
  · have h2' : (decide (a = 20) && decide (b = 40)) = true := by
      have : (decide (a = 20) && (decide (b = 40) && true)) = true := h
      simpa using this
    rw [h2']
    conv => whnf
    exact ⟨.im _, rfl⟩
  have h2' : (decide (a = 20) && decide (b = 40)) = false := by
    have : (decide (a = 20) && (decide (b = 40) && true)) = false := h
    simpa using this
  rw [h2']
  conv => whnf
  intro hw4
  refine ⟨ixS a b 2, ?_, Nat.le_refl _, ?_⟩
  · exact weak2 hw4 rfl ⟨.dat _ _ _, .ptr 0 0 (of_decide_eq_true rfl), .im _, .im _, trivial⟩ (.cons (okB_bw (b := some (.cells 98 (two a b))) rfl) (.nil _)) (fun id hid => by cases hid) rfl (fun id hid => by cases hid)
  refine lp2_round ⟨Nat.le_refl 19, fun x hx => by cases hx⟩ rfl ?_
  conv => whnf
  exact ⟨.im _, rfl⟩

def has2 (a b : Int) : Bool := (decide (a = 10) && decide (b = 50)) || (decide (a = 20) && decide (b = 40))
theorem idx2_has (a b : Int) : decide (idx2 a b ≥ 0) = has2 a b := by
  unfold idx2 has2
  cases (decide (a = 10) && decide (b = 50)) <;> cases (decide (a = 20) && decide (b = 40)) <;> rfl

theorem con2_ct (G : Nat → Option (List V)) (a b : Int) (H : Heap) : Call2 Go.Proofs.Tryd.prog G 60 [.dat 2 bothR .tight, .agg (two a b)] H fun r H' => H' = H ∧ r = .bool (has2 a b) := by
  refine Call2.free (fun x hx => by
    simp only [List.mem_cons, List.not_mem_nil, or_false] at hx
    rcases hx with rfl | rfl
    · exact .dat _ _ _ (by simp)
    · exact two_free a b) ?_ H
  refine stCall2 Go.Proofs.Tryd.func60 rfl (by decide) ?_
  rw [← idx2_has]
  conv => whnf
  refine Call2.mono (idx2_ct G a b _) fun r0 H0 h => ?_
  obtain ⟨h1, h2⟩ := h
  rw [h1, h2]
  clear h1 h2 r0 H0
  conv => whnf
  exact ⟨.im _, rfl⟩

def ccloses (tb : Val' → Int) (m : Met) : Bool := decide (mright tb m = 0) && has2 m.1 m.2.1

theorem ccloses_ct (G : Nat → Option (List V)) (tb : Val' → Int) (m : Met) (htb : 84 ∈ (rowAt m.1 m.2.1).2.2.1 → TbOk G tb) (H : Heap) : Call2 Go.Proofs.Tryd.prog G 39 [.agg (mcells m)] H fun r H' => H' = H ∧ r = .bool (ccloses tb m) := by
  refine Call2.free (fun x hx => by
    simp only [List.mem_cons, List.not_mem_nil, or_false] at hx
    subst hx
    exact mcells_free m) ?_ H
  refine stCall2 Go.Proofs.Tryd.func39 rfl (by decide) ?_
  unfold ccloses
  conv => whnf
  refine Call2.mono (mright_ct G tb m htb _) fun r0 H0 h => ?_
  obtain ⟨h1, h2⟩ := h
  rw [h1, h2]
  clear h1 h2 r0 H0
  conv => whnf
  refine br_intro (fun h => ?_) (fun h => ?_)
  · have h' : decide (mright tb m = 0) = true := h
    rw [h']
    conv => whnf
    refine Call2.mono (con2_ct G m.1 m.2.1 _) fun r0 H0 h => ?_
    obtain ⟨h1, h2⟩ := h
    rw [h1, h2]
    clear h1 h2 r0 H0
    conv => whnf
    exact ⟨.im _, rfl⟩
  · have h' : decide (mright tb m = 0) = false := h
    rw [h']
    conv => whnf
    exact ⟨.im _, rfl⟩

def mDone (m : Met) : Met := (m.1, IntKind.i64.wrap (m.2.1 + 1), [])

theorem vw_met0 {n : Nat} {a b : Int} {es : Nat} {fl : Fl} : VW n (.agg [.int .i64 a, .int .i64 b, .dat es [] fl]) (.agg (mcells (a, b, []))) := by
  refine .agg _ _ rfl fun j v v' h1 h2 => ?_
  match j with
  | 0 => cases h1; cases h2; exact .im _
  | 1 => cases h1; cases h2; exact .im _
  | 2 => cases h1; cases h2; exact .nil _ _ _ _ (.inr (.inl rfl))
  | j + 3 => simp at h1
theorem vw_tup2 {n : Nat} {a b a' b' : V} (h : VW n a a') (h' : VW n b b') : VW n (.tup [a, b]) (.tup [a', b']) := by
  refine .tup _ _ rfl fun j v v' h1 h2 => ?_
  match j with
  | 0 => cases h1; cases h2; exact h
  | 1 => cases h1; cases h2; exact h'
  | j + 2 => simp at h1
theorem cdone_ct (G : Nat → Option (List V)) (tb : Val' → Int) (m : Met) (htb : 84 ∈ (rowAt m.1 m.2.1).2.2.1 → TbOk G tb) (H : Heap) : Call2 Go.Proofs.Tryd.prog G 19 [.agg (mcells m)] H fun r H' => H' = H ∧ r = .tup [.agg (mcells (if ccloses tb m then mDone m else (0, 0, []))), .bool (ccloses tb m)] := by
  refine Call2.free (fun x hx => by
    simp only [List.mem_cons, List.not_mem_nil, or_false] at hx
    subst hx
    exact mcells_free m) ?_ H
  refine Call2.weakR ?_
  refine stCall2 Go.Proofs.Tryd.func19 rfl (by decide) ?_
  conv => whnf
  refine Call2.mono (ccloses_ct G tb m htb _) fun r0 H0 h => ?_
  obtain ⟨h1, h2⟩ := h
  rw [h1, h2]
  clear h1 h2 r0 H0
  conv => whnf
  cases hc : ccloses tb m
  · conv => whnf
    exact ⟨_, vw_tup2 (vw_met0 (a := 0) (b := 0) (es := 0) (fl := .tight)) (.im _), free_tup2 (mcells_free (0, 0, [])) (.im _), rfl⟩
  · conv => whnf
    exact ⟨_, vw_tup2 (vw_met0 (a := m.1) (b := IntKind.i64.wrap (m.2.1 + 1)) (es := 0) (fl := .tight)) (.im _), free_tup2 (mcells_free (m.1, IntKind.i64.wrap (m.2.1 + 1), [])) (.im _), rfl⟩
theorem free_tup3 {a b c : V} (ha : a.Free) (hb : b.Free) (hc : c.Free) : (V.tup [a, b, c]).Free := .tup _ fun v hv => by
  simp only [List.mem_cons, List.not_mem_nil, or_false] at hv
  rcases hv with rfl | rfl | rfl
  · exact ha
  · exact hb
  · exact hc
def mTold (m : Met) : Int × List UInt8 := match m.2.2 with
  | v :: v' :: _ => (IntKind.i64.wrap v.1, v'.2)
  | _ => (0, [])
theorem ctold_ct (G : Nat → Option (List V)) (tb : Val' → Int) (m : Met) (htb : 84 ∈ (rowAt m.1 m.2.1).2.2.1 → TbOk G tb) (hl : ccloses tb m = true → 2 ≤ m.2.2.length) (H : Heap) : Call2 Go.Proofs.Tryd.prog G 18 [.agg (mcells m)] H fun r H' => H' = H ∧ r = .tup [.int .i64 (if ccloses tb m then (mTold m).1 else 0), .str (if ccloses tb m then (mTold m).2 else []), .bool (ccloses tb m)] := by
  refine Call2.free (fun x hx => by
    simp only [List.mem_cons, List.not_mem_nil, or_false] at hx
    subst hx
    exact mcells_free m) ?_ H
  refine stCall2 Go.Proofs.Tryd.func18 rfl (by decide) ?_
  conv => whnf
  refine Call2.mono (ccloses_ct G tb m htb _) fun r0 H0 h => ?_
  obtain ⟨h1, h2⟩ := h
  rw [h1, h2]
  clear h1 h2 r0 H0
  conv => whnf
  cases hc : ccloses tb m
  · conv => whnf
    exact ⟨free_tup3 (.im _) (.str _) (.im _), rfl⟩
  · obtain ⟨c, i, l⟩ := m
    obtain ⟨v, v', l', rfl⟩ : ∃ v v' l', l = v :: v' :: l' := by
      have := hl hc
      match l, this with
      | v :: v' :: l', _ => exact ⟨v, v', l', rfl⟩
    conv => whnf
    intro hw
    refine wpc_draw2 14 (by rfl) (by decide) (by decide) hw ?_
    conv => whnf
    exact ⟨free_tup3 (.im _) (.str _) (.im _), rfl⟩
end Go.Abs.Sig
