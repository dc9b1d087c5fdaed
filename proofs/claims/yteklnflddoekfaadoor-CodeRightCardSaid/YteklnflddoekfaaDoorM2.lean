/- The walks of some functions: what they compute. -/
import Derived.Test.YteklnflddoekfaaDoorM1
import Derived.Test.YteklnflddoekfaaDoorAbsUnroll
namespace Go.Abs.Sig
open Go.RowKit Go.Abs
set_option linter.unusedSimpArgs false
set_option linter.unusedVariables false
set_option maxRecDepth 8000
attribute [local irreducible] StCall StYield WPc Weak IterOf Call2 Lp2

theorem full_len : ∀ {n : Nat} {seen : List Nat}, (∀ i, i < n → i ∈ seen) → n ≤ seen.length
  | 0, _, _ => Nat.zero_le _
  | n + 1, seen, h => by
    have hm := h n (by omega)
    have := full_len (n := n) (seen := seen.erase n) fun i hi => (List.mem_erase_of_ne (by omega)).2 (h i (by omega))
    rw [List.length_erase_of_mem hm] at this
    have : 0 < seen.length := List.length_pos_of_mem hm
    omega
theorem nodup_bound : ∀ {n : Nat} {seen : List Nat}, seen.Nodup → (∀ i ∈ seen, i < n) → seen.length ≤ n
  | 0, seen, _, h => by
    cases seen with
    | nil => exact Nat.le_refl _
    | cons x l => exact absurd (h x (by simp)) (by omega)
  | n + 1, seen, hd, h => by
    by_cases hm : n ∈ seen
    · have := nodup_bound (n := n) (seen := seen.erase n) (hd.erase _) fun i hi => by
        have h1 := (hd.mem_erase_iff.1 hi)
        have := h i h1.2
        have := h1.1
        omega
      rw [List.length_erase_of_mem hm] at this
      omega
    · have := nodup_bound (n := n) (seen := seen) hd fun i hi => by
        have := h i hi
        have : i ≠ n := fun he => hm (he ▸ hi)
        omega
      omega
theorem pigeon {n i : Nat} {seen : List Nat} (hd : seen.Nodup) (h : ∀ j ∈ seen, j < n) (hl : n ≤ seen.length) (hi : i < n) : i ∈ seen := by
  by_cases hm : i ∈ seen
  · exact hm
  · have := nodup_bound (n := n) (seen := i :: seen) (List.nodup_cons.2 ⟨hm, hd⟩) fun j hj => by
      rcases List.mem_cons.1 hj with rfl | hj
      · exact hi
      · exact h j hj
    simp only [List.length_cons] at this
    omega

/-- Values and blocks that name no block beyond n: as they stand. -/
def okV1 (n : Nat) : V → Bool
  | .im _ | .str _ | .bad | .rp _ => true
  | .ptr id _ | .mp id => Nat.blt id n
  | _ => false
def okV (n : Nat) : V → Bool
  | .fn _ a b => a.all (okV1 n) && b.all (okV1 n)
  | v => okV1 n v
def okB (n : Nat) : Option Blk → Bool
  | none => true
  | some (.cells _ vs) => vs.all (okV n)
  | some (.map es _) => es.all fun x => okV n x.1 && okV n x.2
  | some (.iter m _ _ _) => Nat.blt m n
  | some .defd => true
  | _ => false
theorem okV1_vw {n : Nat} {v : V} (h : okV1 n v = true) : VW n v v := by
  cases v with
  | im v => exact .im v
  | str l => exact .str l
  | bad => exact .bad _
  | rp cs => exact .rp cs
  | ptr id o => exact .ptr id o (by simp [okV1, Nat.blt] at h; omega)
  | mp id => exact .mp id (by simp [okV1, Nat.blt] at h; omega)
  | _ => cases h
theorem okV_vw {n : Nat} {v : V} (h : okV n v = true) : VW n v v := by
  cases v with
  | fn f a b =>
    simp only [okV, Bool.and_eq_true, List.all_eq_true] at h
    exact .fn f a b (fun i v hv => okV1_vw (h.1 v (List.mem_of_getElem? hv))) fun i v hv => okV1_vw (h.2 v (List.mem_of_getElem? hv))
  | _ => exact okV1_vw h
theorem okB_bw {n : Nat} {b : Option Blk} (h : okB n b = true) : BW n b b := by
  cases b with
  | none => exact .drop _
  | some b =>
    cases b with
    | cells t vs => exact .cells t vs vs (.self fun i v hv => okV_vw (List.all_eq_true.1 h v (List.mem_of_getElem? hv)))
    | map es c =>
      have h2 := List.all_eq_true.1 h
      refine .map es es c (.self fun i v hv => ?_) (.self fun i v hv => ?_)
      · rw [List.getElem?_map] at hv
        obtain ⟨x, hx, rfl⟩ := Option.map_eq_some_iff.1 hv
        have := h2 x (List.mem_of_getElem? hx)
        rw [Bool.and_eq_true] at this
        exact okV_vw this.1
      · rw [List.getElem?_map] at hv
        obtain ⟨x, hx, rfl⟩ := Option.map_eq_some_iff.1 hv
        have := h2 x (List.mem_of_getElem? hx)
        rw [Bool.and_eq_true] at this
        exact okV_vw this.2
    | iter m s st seen => exact .iter m s st seen (by simp [okB, Nat.blt] at h; omega)
    | defd => exact .defd
    | loop => cases h
theorem okH_bws {n : Nat} : ∀ {H : Heap}, H.all (okB n) = true → BWs n H H
  | [], _ => .nil _
  | b :: H, h => by
    simp only [List.all_cons, Bool.and_eq_true] at h
    exact .cons (okB_bw h.1) (okH_bws h.2)

def fW (q : Nat) : V := .fn (.func 64) [] [.ptr 1 0, .ptr q 0]
def fT (q : Nat) : V := .fn (.func 66) [] [.ptr 2 0, .ptr q 0]
def isW (b n : Int) : Prop := (b = 111 ∧ n = 1) ∨ (b = 115 ∧ n = 2) ∨ (b = 108 ∧ n = 4) ∨ (b = 113 ∧ n = 8) ∨ (b = 98 ∧ n = 0)
def isT (b n : Int) : Prop := (b = 83 ∧ n = 255) ∨ (b = 76 ∧ n = 131072) ∨ (b = 84 ∧ n = -1)
theorem wds_kv {i : Nat} {x : V × V} (h : wdsL[i]? = some x) : ∃ b n, x = kv b n ∧ i < 5 ∧ isW b n ∧ ∀ j b' n', wdsL[j]? = some (kv b' n') → j ≠ i → b ≠ b' := by
  have hi : i < 5 := (List.getElem?_eq_some_iff.1 h).1
  have hj : ∀ {j : Nat} {y : V × V}, wdsL[j]? = some y → j < 5 := fun h => (List.getElem?_eq_some_iff.1 h).1
  match i, hi, h with
  | 0, _, h | 1, _, h | 2, _, h | 3, _, h | 4, _, h =>
    cases h
    refine ⟨_, _, rfl, by omega, by simp [isW], fun j b' n' h2 hne => ?_⟩
    have := hj h2
    match j, this, h2 with
    | 0, _, h2 | 1, _, h2 | 2, _, h2 | 3, _, h2 | 4, _, h2 => cases h2; first | omega | decide
theorem txs_kv {i : Nat} {x : V × V} (h : txsL[i]? = some x) : ∃ b n, x = kv b n ∧ i < 3 ∧ isT b n ∧ ∀ j b' n', txsL[j]? = some (kv b' n') → j ≠ i → b ≠ b' := by
  have hi : i < 3 := (List.getElem?_eq_some_iff.1 h).1
  have hj : ∀ {j : Nat} {y : V × V}, txsL[j]? = some y → j < 3 := fun h => (List.getElem?_eq_some_iff.1 h).1
  match i, hi, h with
  | 0, _, h | 1, _, h | 2, _, h =>
    cases h
    refine ⟨_, _, rfl, by omega, by simp [isT], fun j b' n' h2 hne => ?_⟩
    have := hj h2
    match j, this, h2 with
    | 0, _, h2 | 1, _, h2 | 2, _, h2 => cases h2; first | omega | decide
theorem isWT {b n b' n' : Int} (h : isW b n) (h' : isT b' n') : b' ≠ b := by
  unfold isW at h
  unfold isT at h'
  omega

def cW (n : Int) : Option Blk := some (.cells 85 [.int .i64 n])
def cT (n : Int) : Option Blk := some (.cells 111 [.int .i64 n])
def rgS (H : Heap) : S2 := headS 30 ([.bad, .ptr 1 0, .ptr 2 0, .mp 3, .bad, .bad, .bad, .bad, .bad, .bad, .ptr 5 0] ++ List.replicate 19 .bad) H [] none
def rgS2 (H : Heap) : S2 := headS 30 ([.bad, .ptr 1 0, .ptr 2 0, .mp 3, .bad, .bad, .bad, .bad, .bad, .bad, .bad, .bad, .bad, .bad, .bad, .bad, .bad, .bad, .bad, .bad, .ptr 12 0] ++ List.replicate 9 .bad) H [] none
def rgH (b0 : Option Blk) (es : List (V × V)) (c : Nat) (seen : List Nat) (X : Heap) : Heap := b0 :: some (.cells 109 [.fn (.func 62) [] []]) :: some (.cells 110 [.fn (.func 63) [] []]) :: some (.map es c) :: some (.map wdsL 5) :: some (.iter 4 5 5 seen) :: X

theorem rights_ct0 (G : Nat → Option (List V)) (bk : Option Blk) (hbk : ∀ n, BW n bk bk) : Call2 Go.Proofs.Tryd.prog G 42 [] [bk] fun v H' => v = .mp 3 ∧ ∃ (i0 i1 i2 i3 i4 k0 k1 k2 : Nat) (b0 b1 b2 b3 b4 n0 n1 n2 n3 n4 d0 d1 d2 m0 m1 m2 : Int),
    H' = rgH bk [(.int .u8 b0, fW 6), (.int .u8 b1, fW 7), (.int .u8 b2, fW 8), (.int .u8 b3, fW 9), (.int .u8 b4, fW 10), (.int .u8 d0, fT 13), (.int .u8 d1, fT 14), (.int .u8 d2, fT 15)] 8 [i0, i1, i2, i3, i4] [cW n0, cW n1, cW n2, cW n3, cW n4, some (.map txsL 3), some (.iter 11 3 3 [k0, k1, k2]), cT m0, cT m1, cT m2] ∧ [i0, i1, i2, i3, i4].Nodup ∧ [k0, k1, k2].Nodup ∧ wdsL[i0]? = some (kv b0 n0) ∧ wdsL[i1]? = some (kv b1 n1) ∧ wdsL[i2]? = some (kv b2 n2) ∧ wdsL[i3]? = some (kv b3 n3) ∧ wdsL[i4]? = some (kv b4 n4) ∧ txsL[k0]? = some (kv d0 m0) ∧ txsL[k1]? = some (kv d1 m1) ∧ txsL[k2]? = some (kv d2 m2) := by
  refine stCall2 Go.Proofs.Tryd.func42 rfl (by decide) ?_
  conv => whnf
  refine Call2.mono (widths_ct G _) fun r0 H0 h => ?_
  obtain ⟨h1, h2⟩ := h
  rw [h1, h2]
  clear h1 h2 r0 H0
  conv => whnf
  intro hw
  refine wpc_unroll (n := 30) ?_
  refine lp2_round hw rfl ?_
  conv => whnf
  refine ⟨fun h => absurd (full_len h) (of_decide_eq_false rfl), fun i0 x0 hx0 hn0 => ?_⟩
  obtain ⟨b0, n0, rfl, hi0, hw0, hu0⟩ := wds_kv hx0
  conv => whnf
  refine optK_intro hx0 ?_
  conv => whnf
  intro hv0
  refine ⟨rgS (rgH bk [(.int .u8 b0, fW 6)] 1 [i0] [cW n0]), ?_, Nat.le_refl _, ?_⟩
  · exact weak2 hv0 rfl ⟨.ptr 1 0 (of_decide_eq_true rfl), .ptr 2 0 (of_decide_eq_true rfl), .mp 3 (of_decide_eq_true rfl), .ptr 5 0 (of_decide_eq_true rfl), trivial⟩ (.cons (hbk _) (okH_bws rfl)) (fun id hid => by cases hid) rfl (fun id hid => by cases hid)
  refine lp2_round ⟨Nat.le_refl 30, fun x hx => by cases hx⟩ rfl ?_
  conv => whnf
  refine ⟨fun h => absurd (full_len h) (of_decide_eq_false rfl), fun i1 x1 hx1 hn1 => ?_⟩
  obtain ⟨b1, n1, rfl, hi1, hw1, hu1⟩ := wds_kv hx1
  have hne1_0 : b1 ≠ b0 := hu1 i0 b0 n0 hx0 (fun he => hn1 (by simp [he]))
  conv => whnf
  refine optK_intro hx1 ?_
  conv => whnf
  refine br_f (decide_eq_false hne1_0) ?_
  conv => whnf
  intro hv1
  refine ⟨rgS (rgH bk [(.int .u8 b0, fW 6), (.int .u8 b1, fW 7)] 2 [i0, i1] [cW n0, cW n1]), ?_, Nat.le_refl _, ?_⟩
  · exact weak2 hv1 rfl ⟨.ptr 1 0 (of_decide_eq_true rfl), .ptr 2 0 (of_decide_eq_true rfl), .mp 3 (of_decide_eq_true rfl), .ptr 5 0 (of_decide_eq_true rfl), trivial⟩ (.cons (hbk _) (okH_bws rfl)) (fun id hid => by cases hid) rfl (fun id hid => by cases hid)
  refine lp2_round ⟨Nat.le_refl 30, fun x hx => by cases hx⟩ rfl ?_
  conv => whnf
  refine ⟨fun h => absurd (full_len h) (of_decide_eq_false rfl), fun i2 x2 hx2 hn2 => ?_⟩
  obtain ⟨b2, n2, rfl, hi2, hw2, hu2⟩ := wds_kv hx2
  have hne2_0 : b2 ≠ b0 := hu2 i0 b0 n0 hx0 (fun he => hn2 (by simp [he]))
  have hne2_1 : b2 ≠ b1 := hu2 i1 b1 n1 hx1 (fun he => hn2 (by simp [he]))
  conv => whnf
  refine optK_intro hx2 ?_
  conv => whnf
  refine br_f (decide_eq_false hne2_0) ?_
  conv => whnf
  refine br_f (decide_eq_false hne2_1) ?_
  conv => whnf
  intro hv2
  refine ⟨rgS (rgH bk [(.int .u8 b0, fW 6), (.int .u8 b1, fW 7), (.int .u8 b2, fW 8)] 3 [i0, i1, i2] [cW n0, cW n1, cW n2]), ?_, Nat.le_refl _, ?_⟩
  · exact weak2 hv2 rfl ⟨.ptr 1 0 (of_decide_eq_true rfl), .ptr 2 0 (of_decide_eq_true rfl), .mp 3 (of_decide_eq_true rfl), .ptr 5 0 (of_decide_eq_true rfl), trivial⟩ (.cons (hbk _) (okH_bws rfl)) (fun id hid => by cases hid) rfl (fun id hid => by cases hid)
  refine lp2_round ⟨Nat.le_refl 30, fun x hx => by cases hx⟩ rfl ?_
  conv => whnf
  refine ⟨fun h => absurd (full_len h) (of_decide_eq_false rfl), fun i3 x3 hx3 hn3 => ?_⟩
  obtain ⟨b3, n3, rfl, hi3, hw3, hu3⟩ := wds_kv hx3
  have hne3_0 : b3 ≠ b0 := hu3 i0 b0 n0 hx0 (fun he => hn3 (by simp [he]))
  have hne3_1 : b3 ≠ b1 := hu3 i1 b1 n1 hx1 (fun he => hn3 (by simp [he]))
  have hne3_2 : b3 ≠ b2 := hu3 i2 b2 n2 hx2 (fun he => hn3 (by simp [he]))
  conv => whnf
  refine optK_intro hx3 ?_
  conv => whnf
  refine br_f (decide_eq_false hne3_0) ?_
  conv => whnf
  refine br_f (decide_eq_false hne3_1) ?_
  conv => whnf
  refine br_f (decide_eq_false hne3_2) ?_
  conv => whnf
  intro hv3
  refine ⟨rgS (rgH bk [(.int .u8 b0, fW 6), (.int .u8 b1, fW 7), (.int .u8 b2, fW 8), (.int .u8 b3, fW 9)] 4 [i0, i1, i2, i3] [cW n0, cW n1, cW n2, cW n3]), ?_, Nat.le_refl _, ?_⟩
  · exact weak2 hv3 rfl ⟨.ptr 1 0 (of_decide_eq_true rfl), .ptr 2 0 (of_decide_eq_true rfl), .mp 3 (of_decide_eq_true rfl), .ptr 5 0 (of_decide_eq_true rfl), trivial⟩ (.cons (hbk _) (okH_bws rfl)) (fun id hid => by cases hid) rfl (fun id hid => by cases hid)
  refine lp2_round ⟨Nat.le_refl 30, fun x hx => by cases hx⟩ rfl ?_
  conv => whnf
  refine ⟨fun h => absurd (full_len h) (of_decide_eq_false rfl), fun i4 x4 hx4 hn4 => ?_⟩
  obtain ⟨b4, n4, rfl, hi4, hw4, hu4⟩ := wds_kv hx4
  have hne4_0 : b4 ≠ b0 := hu4 i0 b0 n0 hx0 (fun he => hn4 (by simp [he]))
  have hne4_1 : b4 ≠ b1 := hu4 i1 b1 n1 hx1 (fun he => hn4 (by simp [he]))
  have hne4_2 : b4 ≠ b2 := hu4 i2 b2 n2 hx2 (fun he => hn4 (by simp [he]))
  have hne4_3 : b4 ≠ b3 := hu4 i3 b3 n3 hx3 (fun he => hn4 (by simp [he]))
  conv => whnf
  refine optK_intro hx4 ?_
  conv => whnf
  refine br_f (decide_eq_false hne4_0) ?_
  conv => whnf
  refine br_f (decide_eq_false hne4_1) ?_
  conv => whnf
  refine br_f (decide_eq_false hne4_2) ?_
  conv => whnf
  refine br_f (decide_eq_false hne4_3) ?_
  conv => whnf
  intro hv4
  refine ⟨rgS (rgH bk [(.int .u8 b0, fW 6), (.int .u8 b1, fW 7), (.int .u8 b2, fW 8), (.int .u8 b3, fW 9), (.int .u8 b4, fW 10)] 5 [i0, i1, i2, i3, i4] [cW n0, cW n1, cW n2, cW n3, cW n4]), ?_, Nat.le_refl _, ?_⟩
  · exact weak2 hv4 rfl ⟨.ptr 1 0 (of_decide_eq_true rfl), .ptr 2 0 (of_decide_eq_true rfl), .mp 3 (of_decide_eq_true rfl), .ptr 5 0 (of_decide_eq_true rfl), trivial⟩ (.cons (hbk _) (okH_bws rfl)) (fun id hid => by cases hid) rfl (fun id hid => by cases hid)
  refine lp2_round ⟨Nat.le_refl 30, fun x hx => by cases hx⟩ rfl ?_
  have hnd : [i0, i1, i2, i3, i4].Nodup := by
    simp only [List.mem_cons, List.not_mem_nil, or_false, not_or] at hn1 hn2 hn3 hn4
    simp only [List.nodup_cons, List.mem_cons, List.not_mem_nil, or_false, not_or, not_false_eq_true, List.nodup_nil, and_true]
    refine ⟨⟨Ne.symm hn1, Ne.symm hn2.1, Ne.symm hn3.1, Ne.symm hn4.1⟩, ⟨Ne.symm hn2.2, Ne.symm hn3.2.1, Ne.symm hn4.2.1⟩, ⟨Ne.symm hn3.2.2, Ne.symm hn4.2.2.1⟩, Ne.symm hn4.2.2.2⟩
  conv => whnf
  refine ⟨fun h => ?_, fun i5 x5 hx5 hn5 => absurd (pigeon hnd (fun j hj => ?_) (Nat.le_refl 5) (List.getElem?_eq_some_iff.1 hx5).1) hn5⟩
  rotate_left
  · simp only [List.mem_cons, List.not_mem_nil, or_false] at hj
    show j < 5
    omega
  conv => whnf
  refine Call2.mono (texts_ct G _) fun r0 H0 h => ?_
  obtain ⟨h1, h2⟩ := h
  rw [h1, h2]
  clear h1 h2 r0 H0
  conv => whnf
  intro hw
  refine wpc_unroll (n := 30) ?_
  refine lp2_round hw rfl ?_
  conv => whnf
  refine ⟨fun h => absurd (full_len h) (of_decide_eq_false rfl), fun k0 y0 hy0 hq0 => ?_⟩
  obtain ⟨d0, m0, rfl, hk0, ht0, hz0⟩ := txs_kv hy0
  conv => whnf
  refine optK_intro hy0 ?_
  conv => whnf
  refine br_f (decide_eq_false (isWT hw0 ht0)) ?_
  conv => whnf
  refine br_f (decide_eq_false (isWT hw1 ht0)) ?_
  conv => whnf
  refine br_f (decide_eq_false (isWT hw2 ht0)) ?_
  conv => whnf
  refine br_f (decide_eq_false (isWT hw3 ht0)) ?_
  conv => whnf
  refine br_f (decide_eq_false (isWT hw4 ht0)) ?_
  conv => whnf
  intro hv5
  refine ⟨rgS2 (rgH bk [(.int .u8 b0, fW 6), (.int .u8 b1, fW 7), (.int .u8 b2, fW 8), (.int .u8 b3, fW 9), (.int .u8 b4, fW 10), (.int .u8 d0, fT 13)] 6 [i0, i1, i2, i3, i4] [cW n0, cW n1, cW n2, cW n3, cW n4, some (.map txsL 3), some (.iter 11 3 3 [k0]), cT m0]), ?_, Nat.le_refl _, ?_⟩
  · exact weak2 hv5 rfl ⟨.ptr 1 0 (of_decide_eq_true rfl), .ptr 2 0 (of_decide_eq_true rfl), .mp 3 (of_decide_eq_true rfl), .ptr 12 0 (of_decide_eq_true rfl), trivial⟩ (.cons (hbk _) (okH_bws rfl)) (fun id hid => by cases hid) rfl (fun id hid => by cases hid)
  refine lp2_round ⟨Nat.le_refl 30, fun x hx => by cases hx⟩ rfl ?_
  conv => whnf
  refine ⟨fun h => absurd (full_len h) (of_decide_eq_false rfl), fun k1 y1 hy1 hq1 => ?_⟩
  obtain ⟨d1, m1, rfl, hk1, ht1, hz1⟩ := txs_kv hy1
  have hte1_0 : d1 ≠ d0 := hz1 k0 d0 m0 hy0 (fun he => hq1 (by simp [he]))
  conv => whnf
  refine optK_intro hy1 ?_
  conv => whnf
  refine br_f (decide_eq_false (isWT hw0 ht1)) ?_
  conv => whnf
  refine br_f (decide_eq_false (isWT hw1 ht1)) ?_
  conv => whnf
  refine br_f (decide_eq_false (isWT hw2 ht1)) ?_
  conv => whnf
  refine br_f (decide_eq_false (isWT hw3 ht1)) ?_
  conv => whnf
  refine br_f (decide_eq_false (isWT hw4 ht1)) ?_
  conv => whnf
  refine br_f (decide_eq_false hte1_0) ?_
  conv => whnf
  intro hv6
  refine ⟨rgS2 (rgH bk [(.int .u8 b0, fW 6), (.int .u8 b1, fW 7), (.int .u8 b2, fW 8), (.int .u8 b3, fW 9), (.int .u8 b4, fW 10), (.int .u8 d0, fT 13), (.int .u8 d1, fT 14)] 7 [i0, i1, i2, i3, i4] [cW n0, cW n1, cW n2, cW n3, cW n4, some (.map txsL 3), some (.iter 11 3 3 [k0, k1]), cT m0, cT m1]), ?_, Nat.le_refl _, ?_⟩
  · exact weak2 hv6 rfl ⟨.ptr 1 0 (of_decide_eq_true rfl), .ptr 2 0 (of_decide_eq_true rfl), .mp 3 (of_decide_eq_true rfl), .ptr 12 0 (of_decide_eq_true rfl), trivial⟩ (.cons (hbk _) (okH_bws rfl)) (fun id hid => by cases hid) rfl (fun id hid => by cases hid)
  refine lp2_round ⟨Nat.le_refl 30, fun x hx => by cases hx⟩ rfl ?_
  conv => whnf
  refine ⟨fun h => absurd (full_len h) (of_decide_eq_false rfl), fun k2 y2 hy2 hq2 => ?_⟩
  obtain ⟨d2, m2, rfl, hk2, ht2, hz2⟩ := txs_kv hy2
  have hte2_0 : d2 ≠ d0 := hz2 k0 d0 m0 hy0 (fun he => hq2 (by simp [he]))
  have hte2_1 : d2 ≠ d1 := hz2 k1 d1 m1 hy1 (fun he => hq2 (by simp [he]))
  conv => whnf
  refine optK_intro hy2 ?_
  conv => whnf
  refine br_f (decide_eq_false (isWT hw0 ht2)) ?_
  conv => whnf
  refine br_f (decide_eq_false (isWT hw1 ht2)) ?_
  conv => whnf
  refine br_f (decide_eq_false (isWT hw2 ht2)) ?_
  conv => whnf
  refine br_f (decide_eq_false (isWT hw3 ht2)) ?_
  conv => whnf
  refine br_f (decide_eq_false (isWT hw4 ht2)) ?_
  conv => whnf
  refine br_f (decide_eq_false hte2_0) ?_
  conv => whnf
  refine br_f (decide_eq_false hte2_1) ?_
  conv => whnf
  intro hv7
  refine ⟨rgS2 (rgH bk [(.int .u8 b0, fW 6), (.int .u8 b1, fW 7), (.int .u8 b2, fW 8), (.int .u8 b3, fW 9), (.int .u8 b4, fW 10), (.int .u8 d0, fT 13), (.int .u8 d1, fT 14), (.int .u8 d2, fT 15)] 8 [i0, i1, i2, i3, i4] [cW n0, cW n1, cW n2, cW n3, cW n4, some (.map txsL 3), some (.iter 11 3 3 [k0, k1, k2]), cT m0, cT m1, cT m2]), ?_, Nat.le_refl _, ?_⟩
  · exact weak2 hv7 rfl ⟨.ptr 1 0 (of_decide_eq_true rfl), .ptr 2 0 (of_decide_eq_true rfl), .mp 3 (of_decide_eq_true rfl), .ptr 12 0 (of_decide_eq_true rfl), trivial⟩ (.cons (hbk _) (okH_bws rfl)) (fun id hid => by cases hid) rfl (fun id hid => by cases hid)
  refine lp2_round ⟨Nat.le_refl 30, fun x hx => by cases hx⟩ rfl ?_
  have hnd2 : [k0, k1, k2].Nodup := by
    simp only [List.mem_cons, List.not_mem_nil, or_false, not_or] at hq1 hq2
    simp only [List.nodup_cons, List.mem_cons, List.not_mem_nil, or_false, not_or, not_false_eq_true, List.nodup_nil, and_true]
    exact ⟨⟨Ne.symm hq1, Ne.symm hq2.1⟩, Ne.symm hq2.2⟩
  conv => whnf
  refine ⟨fun h => ?_, fun k3 y3 hy3 hq3 => absurd (pigeon hnd2 (fun j hj => ?_) (Nat.le_refl 3) (List.getElem?_eq_some_iff.1 hy3).1) hq3⟩
  rotate_left
  · simp only [List.mem_cons, List.not_mem_nil, or_false] at hj
    show j < 3
    omega
  conv => whnf
  exact ⟨rfl, i0, i1, i2, i3, i4, k0, k1, k2, b0, b1, b2, b3, b4, n0, n1, n2, n3, n4, d0, d1, d2, m0, m1, m2, rfl, hnd, hnd2, hx0, hx1, hx2, hx3, hx4, hy0, hy1, hy2⟩
end Go.Abs.Sig
