/- The walks of some functions: what they compute. -/
import Derived.Test.YtdpbkooiibaaaaaGreatDoorT1
import Derived.Laws.Bits64
import Derived.Shelf.Strconv.Itoa3
import Derived.Lib.ItoaMem
import Derived.Shelf.Strconv.AppendUint10
import Derived.Lib.AppendZerosOnto
import Derived.WalkKit
import Derived.Lib.Walk
import Derived.Lib.SliceRun

set_option linter.unusedVariables false
set_option linter.unusedSimpArgs false
/-! LCA1 -/
namespace Go.Abs.Sig
open Go.RowKit Go.Abs
set_option linter.unusedSimpArgs false
set_option linter.unusedVariables false
set_option maxRecDepth 8000
attribute [local irreducible] StCall StYield WPc Weak IterOf Lp2

/-! ### heads of contents: what they are -/
abbrev Hd := Int × Int × Int × List Val'
def hdcells (h : Hd) : List V := [.int .i64 h.1, .int .u64 h.2.1, .int .u64 h.2.2.1, .dat 2 (vals h.2.2.2) .no]
theorem hdcells_free' (h : Hd) : ∀ v ∈ hdcells h, v.Free := fun v hv => by
  simp only [hdcells, List.mem_cons, List.not_mem_nil, or_false] at hv
  rcases hv with rfl | rfl | rfl | rfl
  · exact .im _
  · exact .im _
  · exact .im _
  · exact .dat _ _ _ (by simp)
theorem hdcells_free (h : Hd) : (V.agg (hdcells h)).Free := .agg _ (hdcells_free' h)
def pLet : List UInt8 := [83, 83, 84, 111, 111, 83, 83, 83, 83, 113, 83, 83, 83, 83]
def pHas (fl : Int) (i : Nat) : Bool := decide (fl / 2 ^ (15 - i) % 2 = 1)
def pIdx (fl : Int) : List Nat := (List.range 14).filter (pHas fl)
def pItems (fl : Int) : List (List V) := (pIdx fl).zipIdx.map fun x => [.int .i64 (x.1 : Int), .int .i64 (x.2 : Int)]

theorem and_one (x : Int) : IntKind.u64.wrap (((BitVec.ofInt 64 x &&& BitVec.ofInt 64 1).toNat : Nat) : Int) = x % 2 := by
  have h1 : (BitVec.ofInt 64 x &&& BitVec.ofInt 64 1).toNat = (x % 2).toNat := by
    rw [BitVec.toNat_and, BitVec.toNat_ofInt, BitVec.toNat_ofInt]
    have : ((1 : Int) % ((2 ^ 64 : Nat) : Int)).toNat = 1 := by decide
    rw [this, Nat.and_one_is_mod]
    omega
  rw [h1, wrap_u64 (by omega) (by omega)]
  omega
theorem and_three (x : Int) : IntKind.u64.wrap (((BitVec.ofInt 64 x &&& BitVec.ofInt 64 3).toNat : Nat) : Int) = x % 4 := by
  have h1 : (BitVec.ofInt 64 x &&& BitVec.ofInt 64 3).toNat = (x % 4).toNat := by
    rw [BitVec.toNat_and, BitVec.toNat_ofInt, BitVec.toNat_ofInt]
    have : ((3 : Int) % ((2 ^ 64 : Nat) : Int)).toNat = 2 ^ 2 - 1 := by decide
    rw [this, Nat.and_two_pow_sub_one_eq_mod]
    omega
  rw [h1, wrap_u64 (by omega) (by omega)]
  omega

theorem letters_ct (G : Nat → Option (List V)) (H : Heap) : Call2 Go.Proofs.Tryz.prog G 115 [] H fun r H' => H' = H ∧ r = .str pLet := by
  refine stCall2 Go.Proofs.Tryz.func115 rfl (by decide) ?_
  conv => whnf
  exact ⟨rfl, rfl⟩

theorem phas_ct (G : Nat → Option (List V)) (h : Hd) (i : Nat) (hi : i < 14) (H : Heap) : Call2 Go.Proofs.Tryz.prog G 140 [.agg (hdcells h), .int .i64 (i : Int)] H fun r H' => H' = H ∧ r = .bool (pHas h.2.2.1 i) := by
  refine Call2.free (fun x hx => by
    simp only [List.mem_cons, List.not_mem_nil, or_false] at hx
    rcases hx with rfl | rfl
    · exact hdcells_free _
    · exact .im _) ?_ H
  obtain ⟨c, s, fl, l⟩ := h
  have hw : IntKind.i64.wrap (15 - (i : Int)) = ((15 - i : Nat) : Int) := by rw [wrap_i64 (by omega) (by omega)]; omega
  refine stCall2 Go.Proofs.Tryz.func140 rfl (by decide) ?_
  conv => whnf
  refine Call2.mono (letters_ct G _) fun r0 H0 h => ?_
  obtain ⟨h1, h2⟩ := h
  rw [h1, h2]
  clear h1 h2 r0 H0
  conv => whnf
  refine br_t (show decide ((i : Int) < ((pLet.length : Nat) : Int)) = true from decide_eq_true (by show (i : Int) < 14; omega)) ?_
  conv => whnf
  rw [hw]
  refine ⟨by omega, ?_⟩
  conv => whnf
  have hmin : min (((15 - i : Nat) : Int)).toNat 64 = 15 - i := by omega
  refine ⟨.im _, ?_⟩
  show V.bool (decide (IntKind.u64.wrap (((BitVec.ofInt 64 (fl.fdiv (2 ^ min (((15 - i : Nat) : Int)).toNat 64)) &&& BitVec.ofInt 64 1).toNat : Nat) : Int) = 1)) = V.bool (pHas fl i)
  rw [and_one, hmin, Int.fdiv_eq_ediv_of_nonneg _ (Int.pow_nonneg (by decide))]
  rfl

theorem each_ct (G : Nat → Option (List V)) (h : Hd) (H : Heap) : Call2 Go.Proofs.Tryz.prog G 113 [.agg (hdcells h)] H fun r H' => H' = H ++ [some (.cells 124 (hdcells h))] ∧ r = .fn (.func 139) [] [.ptr H.length 0] := by
  obtain ⟨c, s, fl, l⟩ := h
  refine stCall2 Go.Proofs.Tryz.func113 rfl (by decide) ?_
  conv => whnf
  exact ⟨rfl, rfl⟩
theorem fnOk36 : fnOk Go.Proofs.Tryz.prog 139 := ⟨_, Go.Proofs.Tryz.func139, rfl, by decide⟩

def pCnt (fl : Int) (j : Nat) : Nat := ((List.range j).filter (pHas fl)).length
theorem pCnt_succ (fl : Int) (j : Nat) : pCnt fl (j + 1) = pCnt fl j + if pHas fl j then 1 else 0 := by
  unfold pCnt
  rw [List.range_succ, List.filter_append, List.length_append]
  cases hp : pHas fl j <;> simp [hp]
theorem pCnt_le (fl : Int) : ∀ j, pCnt fl j ≤ j
  | 0 => Nat.zero_le _
  | j + 1 => by
    rw [pCnt_succ]
    have := pCnt_le fl j
    split <;> omega
theorem pIdx_at {fl : Int} {j : Nat} (hj : j < 14) (hp : pHas fl j = true) : (pIdx fl)[pCnt fl j]? = some j := by
  have h1 : List.range 14 = List.range j ++ (j :: (List.range (13 - j)).map (fun x => j + 1 + x)) := by
    have := List.range_add (n := j) (m := 13 - j + 1)
    rw [show j + (13 - j + 1) = 14 by omega] at this
    rw [this, List.range_succ_eq_map, List.map_cons, List.map_map]
    congr 2
    exact List.map_congr_left fun x _ => by simp; omega
  unfold pIdx pCnt
  rw [h1, List.filter_append, List.getElem?_append_right (Nat.le_refl _), Nat.sub_self, List.filter_cons, hp]
  rfl
theorem pItems_at {fl : Int} {j : Nat} (hj : j < 14) (hp : pHas fl j = true) : (pItems fl)[pCnt fl j]? = some [.int .i64 (j : Int), .int .i64 (pCnt fl j : Int)] := by
  unfold pItems
  rw [List.getElem?_map, List.getElem?_zipIdx, pIdx_at hj hp]
  simp
theorem pItems_len (fl : Int) : (pItems fl).length = pCnt fl 14 := by simp [pItems, pIdx, pCnt]

def e1S (id k n j : Nat) (H : Heap) : S2 := headS 22 ([.yld id, .ptr k 0, .bad, .im (.int .i64 (n : Int)), .bad, .bad, .im (.int .i64 14), .im (.int .i64 (j : Int))] ++ List.replicate 14 .bad) H [] none
theorem each1_ct (G : Nat → Option (List V)) (h : Hd) (k : Nat) : IterOf Go.Proofs.Tryz.prog G 139 [] [.ptr k 0] (pItems h.2.2.1) fun H => H[k]? = some (some (.cells 124 (hdcells h))) := by
  refine IterOf.mk fun id n Inv Fin H hI hF hy hend h0 hs => ?_
  obtain ⟨hn, hid, hk0⟩ := hI 0 H h0
  have hkn : k < n := hn ▸ (List.getElem?_eq_some_iff.1 hk0).1
  obtain ⟨c, s, fl, l⟩ := h
  refine (stCall2 Go.Proofs.Tryz.func139 rfl (by decide) ?_).2
  conv => whnf
  refine Call2.mono (letters_ct G _) fun r0 H0 h => ?_
  obtain ⟨h1, h2⟩ := h
  rw [h1, h2]
  clear h1 h2 r0 H0
  conv => whnf
  intro hw
  refine wpc_loop2 (fun m s1 => ∃ (j : Nat) (H' : Heap), m = 14 - j ∧ j ≤ 14 ∧ Inv (pCnt fl j) H' ∧ Scoped H' ∧ s1 = e1S id k (pCnt fl j) j H') 14 (e1S id k 0 0 H) ?_ ⟨0, H, rfl, by omega, h0, hs, rfl⟩ ?_ ?_
  · exact weak2 hw rfl ⟨.yld _ (by omega), .ptr _ _ (by omega), .im _, .im _, .im _, trivial⟩ hs.bws (fun id hid => by cases hid) rfl (fun id hid => by cases hid)
  · rintro m s1 ⟨j, H', rfl, hj, hI', hs', rfl⟩
    refine ⟨⟨Nat.le_refl 22, fun x hx => by cases hx⟩, rfl, ?_, rfl⟩
    show H.length ≤ H'.length
    rw [(hI _ H' hI').1, ← hn]
    exact Nat.le_refl _
  rintro m s1 ⟨j, H', rfl, hj, hI', hs', rfl⟩
  obtain ⟨hn', _, hk⟩ := hI _ H' hI'
  by_cases hjl : j < 14
  · have hwj : IntKind.i64.wrap ((j : Int) + 1) = ((j + 1 : Nat) : Int) := by rw [wrap_i64 (by omega) (by omega)]; rfl
    have hph := phas_ct G (c, s, fl, l) j hjl
    conv => whnf
    refine br_t (decide_eq_true (by omega)) ?_
    conv => whnf
    rw [hk]
    conv => whnf
    refine Call2.mono (hph _) fun r0 H0 h => ?_
    obtain ⟨h1, h2⟩ := h
    rw [h1, h2]
    clear h1 h2 r0 H0
    conv => whnf
    cases hp : pHas fl j with
    | false =>
      conv => whnf
      intro hw2
      have hc : pCnt fl (j + 1) = pCnt fl j := by rw [pCnt_succ, hp]; rfl
      refine ⟨14 - (j + 1), e1S id k (pCnt fl (j + 1)) (j + 1) H', by omega, ?_, j + 1, H', rfl, by omega, by rw [hc]; exact hI', hs', rfl⟩
      rw [hc]
      exact weak2 hw2 rfl ⟨.yld _ (by omega), .ptr _ _ (by omega), .im _, .im _, .int hwj, trivial⟩ hs'.bws (fun id hid => by cases hid) rfl (fun id hid => by cases hid)
    | true =>
      have hc : pCnt fl (j + 1) = pCnt fl j + 1 := by rw [pCnt_succ, hp]; rfl
      have hpl := pCnt_le fl j
      have hwn : IntKind.i64.wrap ((pCnt fl j : Int) + 1) = ((pCnt fl (j + 1) : Nat) : Int) := by rw [wrap_i64 (by omega) (by omega), hc]; rfl
      conv => whnf
      have hfr := (hy (pCnt fl j) _ H' (pItems_at hjl hp) hI' hs').frame [] hs' (fun v hv => by
        simp only [List.mem_cons, List.not_mem_nil, or_false] at hv
        rcases hv with rfl | rfl
        · exact ⟨.im _, rfl⟩
        · exact ⟨.im _, rfl⟩) (fun c hc => by cases hc)
      rw [List.append_nil] at hfr
      refine hfr.mono ?_
      rintro r1 H1 ⟨H3, rfl, hl3, hs3, h5⟩
      rw [List.append_nil]
      rcases h5 with ⟨rfl, h6⟩ | ⟨rfl, h6⟩
      · rw [← hc] at h6
        conv => whnf
        intro hw2
        refine ⟨14 - (j + 1), e1S id k (pCnt fl (j + 1)) (j + 1) H3, by omega, ?_, j + 1, H3, rfl, by omega, h6, hs3, rfl⟩
        exact weak2 hw2 rfl ⟨.yld _ (show id < H3.length by omega), .ptr _ _ (show k < H3.length by omega), .int hwn, .im _, .int hwj, trivial⟩ hs3.bws (fun id hid => by cases hid) rfl (fun id hid => by cases hid)
      · conv => whnf
        exact h6
  · have hje : j = 14 := by omega
    subst hje
    conv => whnf
    exact hend H' (by rw [pItems_len]; exact hI')

end Go.Abs.Sig

/-! LCA2 -/
namespace Go.Abs.Sig
open Go.RowKit Go.Abs
set_option linter.unusedSimpArgs false
set_option linter.unusedVariables false
set_option maxRecDepth 8000
attribute [local irreducible] StCall StYield WPc Weak IterOf Lp2

theorem fn36_vw {n k : Nat} (h : k < n) : VW n (.fn (.func 139) [] [.ptr k 0]) (.fn (.func 139) [] [.ptr k 0]) := .fn _ _ _ (fun i v h => by simp at h) (fun i v hv => by
  have hv := List.mem_of_getElem? hv
  simp only [List.mem_cons, List.not_mem_nil, or_false] at hv
  subst hv
  exact .ptr k 0 h)
theorem bw_hd {n : Nat} (t : TypeId) (h : Hd) : BW n (some (.cells t (hdcells h))) (some (.cells t (hdcells h))) := .free (hdcells_free' h)
theorem bw_im {n : Nat} (t : TypeId) (u : Value) : BW n (some (.cells t [.im u])) (some (.cells t [.im u])) := .free fun v hv => by
  obtain rfl := List.mem_singleton.1 hv
  exact .im _
def manyH (h : Hd) (i : Nat) : Heap := [some (.cells 124 (hdcells h)), some (.cells 3 [.im (.int .i64 (i : Int))]), some (.cells 124 (hdcells h))]
theorem manyH_bws (h : Hd) (i : Nat) : BWs 3 (manyH h i) (manyH h i) := .cons (bw_hd _ _) (.cons (bw_im _ _) (.cons (bw_hd _ _) (.nil _)))
theorem many_ct (G : Nat → Option (List V)) (h : Hd) (H : Heap) : Call2 Go.Proofs.Tryz.prog G 112 [.agg (hdcells h)] H fun r H' => H' = H ∧ r = .int .i64 (pCnt h.2.2.1 14 : Int) := by
  refine Call2.free (fun x hx => by
    simp only [List.mem_cons, List.not_mem_nil, or_false] at hx
    rcases hx with rfl
    exact hdcells_free _) ?_ H
  obtain ⟨c, s, fl, l⟩ := h
  have hle := pCnt_le fl 14
  have hlen := pItems_len fl
  have he := each_ct G (c, s, fl, l)
  have hi := each1_ct G (c, s, fl, l) 2
  refine stCall2 Go.Proofs.Tryz.func112 rfl (by decide) ?_
  conv => whnf
  refine Call2.mono (he _) fun r0 H0 h => ?_
  obtain ⟨h1, h2⟩ := h
  rw [h1, h2]
  clear h1 h2 r0 H0
  conv => whnf
  intro hw
  refine WPc.weak (σ0 := (headS 11 ([.bad, .bad, .bad, .ptr 1 0, .bad, .fn (.func 139) [] [.ptr 2 0]] ++ List.replicate 5 .bad) (manyH (c, s, fl, l) 0) [] none).st) ?_ (Nat.le_refl _) ?_
  · exact weak2 hw rfl ⟨.ptr 1 0 (show 1 < 3 by decide), fn36_vw (show 2 < 3 by decide), trivial⟩ (manyH_bws _ _) (fun id hid => by cases hid) rfl (fun id hid => by cases hid)
  clear hw
  refine wpc_rangeIter2 hi (Nat.le_refl 11) rfl rfl fnOk36 (fun i H' => H' = manyH (c, s, fl, l) i) rfl ?_ ?_ ?_ ?_ ?_
  · rintro i H' rfl; rfl
  · rintro i H' rfl; rfl
  · intro x hx
    obtain ⟨y, _, rfl⟩ := List.mem_map.1 hx
    rfl
  · rintro i x H' hx rfl hl hs'
    have hil : i < 14 := by
      have : i < (pItems fl).length := (List.getElem?_eq_some_iff.1 hx).1
      omega
    have hwi : IntKind.i64.wrap ((i : Int) + 1) = ((i + 1 : Nat) : Int) := by rw [wrap_i64 (by omega) (by omega)]; rfl
    obtain ⟨y, hy, rfl⟩ := List.mem_map.1 (List.mem_of_getElem? hx)
    conv => whnf
    refine ⟨rfl, rfl, ?_⟩
    conv => whnf
    rw [hwi]
    refine ⟨manyH (c, s, fl, l) (i + 1), [], rfl, rfl, ?_, rfl⟩
    intro id b hb
    have hb := List.mem_of_getElem? hb
    simp only [manyH, List.mem_cons, Option.some.injEq, List.not_mem_nil, or_false] at hb
    rcases hb with rfl | rfl | rfl
    · exact .inr (bw_hd _ _)
    · exact .inr (bw_im _ _)
    · exact .inr (bw_hd _ _)
  · rintro H' rfl
    conv => whnf
    refine ⟨.im _, ?_⟩
    rw [hlen]
    rfl

/-- Is a head right, but for its size and values? -/
def pForm (h : Hd) : Int := if h.1 ≠ 60 ∨ 65535 < h.2.2.1 ∨ h.2.2.1 % 4 ≠ 0 ∨ pCnt h.2.2.1 14 ≠ h.2.2.2.length then 7 else 0
theorem form_ct (G : Nat → Option (List V)) (h : Hd) (H : Heap) : Call2 Go.Proofs.Tryz.prog G 81 [.agg (hdcells h)] H fun r H' => H' = H ∧ r = .int .i64 (pForm h) := by
  refine Call2.free (fun x hx => by
    simp only [List.mem_cons, List.not_mem_nil, or_false] at hx
    rcases hx with rfl
    exact hdcells_free _) ?_ H
  obtain ⟨c, s, fl, l⟩ := h
  have hm := many_ct G (c, s, fl, l)
  have hvl : (vals l).length = l.length := by simp [vals]
  unfold pForm
  simp only at hm ⊢
  refine stCall2 Go.Proofs.Tryz.func81 rfl (by decide) ?_
  conv => whnf
  intro hw
  refine wpc_draw2 24 (by rfl) (by decide) (by kernel_rfl) hw ?_
  conv => whnf
  by_cases h1 : c = 60
  · refine br_f (decide_eq_false (fun h => h h1)) ?_
    conv => whnf
    by_cases h2 : 65535 < fl
    · refine br_t (show bsel false true (decide (65535 < fl)) = true from decide_eq_true h2) ?_
      conv => whnf
      rw [if_pos (.inr (.inl h2))]
      exact ⟨.im _, rfl⟩
    · refine br_f (show bsel false true (decide (65535 < fl)) = false from decide_eq_false h2) ?_
      conv => whnf
      rw [show IntKind.u64.wrap (((BitVec.ofInt IntKind.u64.bits fl &&& BitVec.ofInt IntKind.u64.bits 3).toNat : Nat) : Int) = fl % 4 from and_three fl]
      by_cases h3 : fl % 4 ≠ 0
      · refine br_t (show bsel false true (decide (fl % 4 ≠ 0)) = true from decide_eq_true h3) ?_
        conv => whnf
        rw [if_pos (.inr (.inr (.inl h3)))]
        exact ⟨.im _, rfl⟩
      · refine br_f (show bsel false true (decide (fl % 4 ≠ 0)) = false from decide_eq_false h3) ?_
        conv => whnf
        refine ⟨_, fun X _ => hm _, ?_⟩
        conv => whnf
        rw [hvl]
        by_cases h4 : pCnt fl 14 = l.length
        · refine br_f (show bsel false true (decide ((pCnt fl 14 : Int) ≠ (l.length : Int))) = false from decide_eq_false (by omega)) ?_
          conv => whnf
          rw [if_neg (by simp [h1, h2, h4]; simpa using h3)]
          exact ⟨.im _, rfl⟩
        · refine br_t (show bsel false true (decide ((pCnt fl 14 : Int) ≠ (l.length : Int))) = true from decide_eq_true (by omega)) ?_
          conv => whnf
          rw [if_pos (.inr (.inr (.inr h4)))]
          exact ⟨.im _, rfl⟩
  · refine br_t (decide_eq_true h1) ?_
    conv => whnf
    rw [if_pos (.inl h1)]
    exact ⟨.im _, rfl⟩

def tbRest (s : List UInt8) : Bool := bsel (decide ((tblF s).2.2 ≠ 0)) true (decide ((tblF s).2.1 ≠ []))
/-- Is a value right, by its letter? -/
def pVal (c : UInt8) (v : Val') : Int :=
  if (c = 111 ∧ v.1 / 256 ≠ 0) ∨ (c = 83 ∧ 255 < v.2.length) then 4
  else if ((c = 111 ∨ c = 113) ∧ v.2 ≠ []) ∨ (¬ (c = 111 ∨ c = 113) ∧ v.1 ≠ 0) then 1
  else if c = 84 ∧ tbRest v.2 = true then 3 else 0

end Go.Abs.Sig

/-! LCA3 -/
namespace Go.Abs.Sig
open Go.RowKit Go.Abs
set_option linter.unusedSimpArgs false
set_option linter.unusedVariables false
set_option maxRecDepth 8000
attribute [local irreducible] StCall StYield WPc Weak IterOf Lp2

theorem pVal_83 (v : Val') : pVal 83 v = if 255 < v.2.length then 4 else if v.1 ≠ 0 then 1 else 0 := by
  unfold pVal
  simp
theorem pVal_84 (v : Val') : pVal 84 v = if v.1 ≠ 0 then 1 else if tbRest v.2 = true then 3 else 0 := by
  unfold pVal
  simp
theorem pVal_111 (v : Val') : pVal 111 v = if v.1 / 256 ≠ 0 then 4 else if v.2 ≠ [] then 1 else 0 := by
  unfold pVal
  simp
theorem pVal_113 (v : Val') : pVal 113 v = if v.2 ≠ [] then 1 else 0 := by
  unfold pVal
  simp
theorem pright_ct (G : Nat → Option (List V)) (hG : G 1 = some wV) (c : UInt8) (hc : c = 83 ∨ c = 84 ∨ c = 111 ∨ c = 113) (v : Val') (hs : v.2.length ≤ maxStr) (H : Heap) :
    Call2 Go.Proofs.Tryz.prog G 114 [.int .u8 (c.toNat : Int), .agg (vcells v)] H fun r H' => H' = H ∧ r = .int .i64 (pVal c v) := by
  refine Call2.free (fun x hx => by
    simp only [List.mem_cons, List.not_mem_nil, or_false] at hx
    rcases hx with rfl | rfl
    · exact .im _
    · exact vcells_free _) ?_ H
  have ht := table_ct G hG v.2 hs
  obtain ⟨n, s⟩ := v
  simp only at hs ht
  rcases hc with rfl | rfl | rfl | rfl
  · rw [pVal_83]
    refine stCall2 Go.Proofs.Tryz.func114 rfl (by decide) ?_
    conv => whnf
    by_cases h1 : 255 < s.length
    · refine br_t (show bsel false true (bsel true (decide ((255 : Int) < (s.length : Int))) false) = true from decide_eq_true (by omega)) ?_
      conv => whnf
      rw [if_pos h1]
      exact ⟨.im _, rfl⟩
    refine br_f (show bsel false true (bsel true (decide ((255 : Int) < (s.length : Int))) false) = false from decide_eq_false (by omega)) ?_
    rw [if_neg h1]
    conv => whnf
    by_cases h2 : n = 0
    · refine br_f (show bsel false true (bsel true (decide (n ≠ 0)) false) = false from decide_eq_false (fun h => h h2)) ?_
      conv => whnf
      rw [if_neg (fun h => h h2)]
      exact ⟨.im _, rfl⟩
    · refine br_t (show bsel false true (bsel true (decide (n ≠ 0)) false) = true from decide_eq_true h2) ?_
      conv => whnf
      rw [if_pos h2]
      exact ⟨.im _, rfl⟩
  · rw [pVal_84]
    refine stCall2 Go.Proofs.Tryz.func114 rfl (by decide) ?_
    conv => whnf
    by_cases h2 : n = 0
    · refine br_f (show bsel false true (bsel true (decide (n ≠ 0)) false) = false from decide_eq_false (fun h => h h2)) ?_
      rw [if_neg (fun h => h h2)]
      unfold tbRest
      simp only
      generalize tblF s = z at ht ⊢
      obtain ⟨z1, z2, e⟩ := z
      unfold ssV at ht
      simp only at ht ⊢
      conv => whnf
      refine Call2.mono (ht _) fun r0 H0 h => ?_
      obtain ⟨h1, h2⟩ := h
      rw [h1, h2]
      clear h1 h2 r0 H0
      conv => whnf
      by_cases he : e = 0
      · refine br_f (decide_eq_false (fun h => h he)) ?_
        rw [show decide (e ≠ 0) = false from decide_eq_false (fun h => h he)]
        conv => whnf
        by_cases hz : z2 = []
        · refine br_f (show bsel false true (decide (z2 ≠ [])) = false from decide_eq_false (fun h => h hz)) ?_
          conv => whnf
          rw [show decide (z2 ≠ []) = false from decide_eq_false (fun h => h hz)]
          exact ⟨.im _, rfl⟩
        · refine br_t (show bsel false true (decide (z2 ≠ [])) = true from decide_eq_true hz) ?_
          conv => whnf
          rw [show decide (z2 ≠ []) = true from decide_eq_true hz]
          exact ⟨.im _, rfl⟩
      · refine br_t (decide_eq_true he) ?_
        conv => whnf
        rw [show decide (e ≠ 0) = true from decide_eq_true he]
        exact ⟨.im _, rfl⟩
    · refine br_t (show bsel false true (bsel true (decide (n ≠ 0)) false) = true from decide_eq_true h2) ?_
      conv => whnf
      rw [if_pos h2]
      exact ⟨.im _, rfl⟩
  · rw [pVal_111]
    refine stCall2 Go.Proofs.Tryz.func114 rfl (by decide) ?_
    conv => whnf
    have hq : n.fdiv (2 ^ min (8 : Int).toNat 64) = n / 256 := by rw [show min (8 : Int).toNat 64 = 8 by decide, Int.fdiv_eq_ediv_of_nonneg _ (by decide)]; rfl
    refine ⟨by decide, ?_⟩
    conv => whnf
    by_cases h1 : n / 256 = 0
    · refine br_f (show bsel true (decide (n.fdiv (2 ^ min (8 : Int).toNat 64) ≠ 0)) false = false from decide_eq_false (by rw [hq]; exact fun h => h h1)) ?_
      rw [if_neg (fun h => h h1)]
      conv => whnf
      by_cases h2 : s = []
      · subst h2
        conv => whnf
        exact ⟨.im _, rfl⟩
      · refine br_t (show bsel true (decide (s ≠ [])) false = true from decide_eq_true h2) ?_
        rw [if_pos h2]
        conv => whnf
        exact ⟨.im _, rfl⟩
    · refine br_t (show bsel true (decide (n.fdiv (2 ^ min (8 : Int).toNat 64) ≠ 0)) false = true from decide_eq_true (by rw [hq]; exact h1)) ?_
      rw [if_pos h1]
      conv => whnf
      exact ⟨.im _, rfl⟩
  · rw [pVal_113]
    refine stCall2 Go.Proofs.Tryz.func114 rfl (by decide) ?_
    conv => whnf
    by_cases h2 : s = []
    · subst h2
      conv => whnf
      exact ⟨.im _, rfl⟩
    · refine br_t (show bsel true (decide (s ≠ [])) false = true from decide_eq_true h2) ?_
      rw [if_pos h2]
      conv => whnf
      exact ⟨.im _, rfl⟩

/-- The first error of the values. -/
def pGo : List Nat → List Val' → Int
  | i :: is, v :: vs => if pVal (pLet.getD i 0) v ≠ 0 then pVal (pLet.getD i 0) v else pGo is vs
  | _, _ => 0
def hRight (h : Hd) : Int := if pForm h ≠ 0 then 7 else if 65536 < h.2.1 then 4 else pGo (pIdx h.2.2.1) h.2.2.2
theorem pLet_at {i : Nat} (h : i < 14) : pLet[i]? = some (pLet.getD i 0) ∧ (pLet.getD i 0 = 83 ∨ pLet.getD i 0 = 84 ∨ pLet.getD i 0 = 111 ∨ pLet.getD i 0 = 113) := by
  have : ∀ i : Fin 14, pLet[i.1]? = some (pLet.getD i.1 0) ∧ (pLet.getD i.1 0 = 83 ∨ pLet.getD i.1 0 = 84 ∨ pLet.getD i.1 0 = 111 ∨ pLet.getD i.1 0 = 113) := by decide
  exact this ⟨i, h⟩
theorem pIdx_lt {fl : Int} {i : Nat} (h : i ∈ pIdx fl) : i < 14 := by
  unfold pIdx at h
  simpa using (List.mem_filter.1 h).1
theorem pItems_get {fl : Int} {i : Nat} {x : List V} (h : (pItems fl)[i]? = some x) : ∃ j, (pIdx fl)[i]? = some j ∧ x = [.int .i64 (j : Int), .int .i64 (i : Int)] ∧ j < 14 := by
  unfold pItems at h
  rw [List.getElem?_map, List.getElem?_zipIdx] at h
  cases hj : (pIdx fl)[i]? with
  | none => rw [hj] at h; cases h
  | some j =>
    rw [hj] at h
    refine ⟨j, rfl, ?_, pIdx_lt (List.mem_of_getElem? hj)⟩
    simp at h
    exact h.symm

def valsH (h : Hd) : Heap := [some (.cells 124 (hdcells h)), some (.cells 44 [.im (.int .i64 0)]), some (.cells 124 (hdcells h))]
theorem valsH_bws (h : Hd) : BWs 3 (valsH h) (valsH h) := .cons (bw_hd _ _) (.cons (bw_im _ _) (.cons (bw_hd _ _) (.nil _)))
theorem values_ct (G : Nat → Option (List V)) (hG : G 1 = some wV) (h : Hd) (hf : pCnt h.2.2.1 14 = h.2.2.2.length) (hs : ∀ v ∈ h.2.2.2, v.2.length ≤ maxStr) (H : Heap) :
    Call2 Go.Proofs.Tryz.prog G 82 [.agg (hdcells h)] H fun r H' => H' = H ∧ r = .int .i64 (pGo (pIdx h.2.2.1) h.2.2.2) := by
  refine Call2.free (fun x hx => by
    simp only [List.mem_cons, List.not_mem_nil, or_false] at hx
    rcases hx with rfl
    exact hdcells_free _) ?_ H
  obtain ⟨c, s, fl, l⟩ := h
  have hlen := pItems_len fl
  have hle := pCnt_le fl 14
  have he := each_ct G (c, s, fl, l)
  have hi := each1_ct G (c, s, fl, l) 2
  simp only at hf hs
  refine stCall2 Go.Proofs.Tryz.func82 rfl (by decide) ?_
  conv => whnf
  refine Call2.mono (he _) fun r0 H0 h => ?_
  obtain ⟨h1, h2⟩ := h
  rw [h1, h2]
  clear h1 h2 r0 H0
  conv => whnf
  intro hw
  refine WPc.weak (σ0 := (headS 23 ([.bad, .ptr 0 0, .ptr 1 0, .bad, .bad, .bad, .bad, .fn (.func 139) [] [.ptr 2 0]] ++ List.replicate 15 .bad) (valsH (c, s, fl, l)) [] none).st) ?_ (Nat.le_refl _) ?_
  · exact weak2 hw rfl ⟨.ptr 0 0 (show 0 < 3 by decide), .ptr 1 0 (show 1 < 3 by decide), fn36_vw (show 2 < 3 by decide), trivial⟩ (valsH_bws _) (fun id hid => by cases hid) rfl (fun id hid => by cases hid)
  clear hw
  refine wpc_rangeIter2 hi (Nat.le_refl 23) rfl rfl fnOk36 (fun i H' => H' = valsH (c, s, fl, l) ∧ pGo (pIdx fl) l = pGo ((pIdx fl).drop i) (l.drop i)) ⟨rfl, rfl⟩ ?_ ?_ ?_ ?_ ?_
  · rintro i H' ⟨rfl, _⟩; rfl
  · rintro i H' ⟨rfl, _⟩; rfl
  · intro x hx
    obtain ⟨y, _, rfl⟩ := List.mem_map.1 hx
    rfl
  · rintro i x H' hx ⟨rfl, hgo⟩ hl hs'
    obtain ⟨j, hj, rfl, hj14⟩ := pItems_get hx
    obtain ⟨hlet, hc4⟩ := pLet_at hj14
    have hpl : (pIdx fl).length = l.length := hf
    have hil : i < l.length := by rw [← hpl]; exact (List.getElem?_eq_some_iff.1 hj).1
    obtain ⟨v, hv⟩ : ∃ v, l[i]? = some v := ⟨_, List.getElem?_eq_getElem hil⟩
    have hgv : (vals l)[Int.toNat (i : Int)]? = some (vcells v) := vals_get hv
    have hgl : pLet[Int.toNat (j : Int)]? = some (pLet.getD j 0) := hlet
    have hd1 : (pIdx fl).drop i = j :: (pIdx fl).drop (i + 1) := by
      rw [List.drop_eq_getElem_cons (by omega), (List.getElem?_eq_some_iff.1 hj).2]
    have hd2 : l.drop i = v :: l.drop (i + 1) := by
      rw [List.drop_eq_getElem_cons hil, (List.getElem?_eq_some_iff.1 hv).2]
    rw [hd1, hd2, pGo] at hgo
    have hp := pright_ct G hG (pLet.getD j 0) hc4 v (hs v (List.mem_of_getElem? hv))
    generalize pLet.getD j 0 = b at *
    conv => whnf
    refine ⟨rfl, rfl, ?_⟩
    conv => whnf
    intro hwD
    refine wpc_draw2 11 (by rfl) (by decide) (by kernel_rfl) hwD ?_
    conv => whnf
    refine ⟨_, fun X _ => letters_ct G _, ?_⟩
    conv => whnf
    refine optK_intro hgl ?_
    conv => whnf
    refine optK_intro hgv ?_
    conv => whnf
    refine ⟨_, fun X _ => hp _, ?_⟩
    conv => whnf
    by_cases hb : pVal b v = 0
    · refine br_f (decide_eq_false (fun h => h hb)) ?_
      rw [if_neg (fun h => h hb)] at hgo
      conv => whnf
      refine ⟨valsH (c, s, fl, l), [], rfl, rfl, fun id b hb => .inl hb, rfl, hgo⟩
    · refine br_t (decide_eq_true hb) ?_
      rw [if_pos hb] at hgo
      conv => whnf
      refine ⟨[some (.cells 124 (hdcells (c, s, fl, l))), some (.cells 44 [.im (.int .i64 (pVal b v))]), some (.cells 124 (hdcells (c, s, fl, l)))], [], rfl, rfl, ?_, ?_⟩
      · intro id b hb
        have hb := List.mem_of_getElem? hb
        simp only [List.mem_cons, Option.some.injEq, List.not_mem_nil, or_false] at hb
        rcases hb with rfl | rfl | rfl
        · exact .inr (bw_hd _ _)
        · exact .inr (bw_im _ _)
        · exact .inr (bw_hd _ _)
      · conv => whnf
        refine ⟨.im _, ?_⟩
        show _ = V.int .i64 (pGo (pIdx fl) l)
        rw [hgo]
        rfl
  · rintro H' ⟨rfl, hgo⟩
    conv => whnf
    refine ⟨.im _, ?_⟩
    have hpl : (pIdx fl).length = l.length := hf
    have hpi : (pItems fl).length = l.length := by rw [hlen, hf]
    have : (pIdx fl).drop (pItems fl).length = [] := List.drop_of_length_le (by omega)
    show _ = V.int .i64 (pGo (pIdx fl) l)
    rw [hgo, this]
    rfl

end Go.Abs.Sig

/-! LCA4 -/
namespace Go.Abs.Sig
open Go.RowKit Go.Abs
set_option linter.unusedSimpArgs false
set_option linter.unusedVariables false
set_option maxRecDepth 8000
attribute [local irreducible] StCall StYield WPc Weak IterOf Lp2

theorem pForm_vals (h : Hd) : pForm h = 0 → pCnt h.2.2.1 14 = h.2.2.2.length ∧ h.1 = 60 ∧ h.2.2.1 ≤ 65535 := by
  unfold pForm
  split
  · intro h; cases h
  · rename_i hn
    intro _
    simp only [not_or] at hn
    omega
theorem pForm_or (h : Hd) : pForm h = 0 ∨ pForm h = 7 := by
  unfold pForm
  split
  · exact .inr rfl
  · exact .inl rfl
theorem hright_ct (G : Nat → Option (List V)) (hG : G 1 = some wV) (h : Hd) (hs : ∀ v ∈ h.2.2.2, v.2.length ≤ maxStr) (H : Heap) :
    Call2 Go.Proofs.Tryz.prog G 49 [.agg (hdcells h)] H fun r H' => H' = H ∧ r = .int .i64 (hRight h) := by
  refine Call2.free (fun x hx => by
    simp only [List.mem_cons, List.not_mem_nil, or_false] at hx
    rcases hx with rfl
    exact hdcells_free _) ?_ H
  have hf := form_ct G h
  have hv := pForm_vals h
  have hor := pForm_or h
  have hva := fun hf => values_ct G hG h hf hs
  unfold hRight
  generalize pForm h = e at hf hv hor ⊢
  obtain ⟨c, s, fl, l⟩ := h
  simp only at hv hva ⊢
  generalize pGo (pIdx fl) l = e2 at hva ⊢
  refine stCall2 Go.Proofs.Tryz.func49 rfl (by decide) ?_
  conv => whnf
  refine Call2.mono (hf _) fun r0 H0 h => ?_
  obtain ⟨h1, h2⟩ := h
  rw [h1, h2]
  clear h1 h2 r0 H0
  conv => whnf
  by_cases he : e = 0
  · subst he
    rw [if_neg (fun h => h rfl)]
    have hva := hva (hv rfl).1
    conv => whnf
    by_cases h2 : 65536 < s
    · refine br_t (show bsel true (decide ((65536 : Int) < s)) false = true from decide_eq_true h2) ?_
      rw [if_pos h2]
      conv => whnf
      exact ⟨.im _, rfl⟩
    · refine br_f (show bsel true (decide ((65536 : Int) < s)) false = false from decide_eq_false h2) ?_
      rw [if_neg h2]
      conv => whnf
      refine Call2.mono (hva _) fun r0 H0 h => ?_
      obtain ⟨h1, h2⟩ := h
      rw [h1, h2]
      clear h1 h2 r0 H0
      conv => whnf
      exact ⟨.im _, rfl⟩
  · have he7 : e = 7 := hor.resolve_left he
    subst he7
    rw [if_pos (by decide)]
    conv => whnf
    exact ⟨.im _, rfl⟩

theorem psame_ct (G : Nat → Option (List V)) (a b : Hd) (hla : a.2.2.2.length ≤ maxLen) (H : Heap) : Call2 Go.Proofs.Tryz.prog G 48 [.agg (hdcells a), .agg (hdcells b)] H fun r H' => H' = H ∧ r = .bool (decide (a = b)) := by
  refine Call2.free (fun x hx => by
    simp only [List.mem_cons, List.not_mem_nil, or_false] at hx
    rcases hx with rfl | rfl
    · exact hdcells_free _
    · exact hdcells_free _) ?_ H
  obtain ⟨c, s, fl, l⟩ := a
  obtain ⟨c', s', fl', l'⟩ := b
  have hq := eqvals_ct G l l' hla
  have hdec : decide (((c, s, fl, l) : Hd) = (c', s', fl', l')) = bsel (decide (c = c')) (bsel (decide (s = s')) (bsel (decide (fl = fl')) (decide (l = l')) false) false) false := by
    by_cases h1 : c = c'
    · by_cases h2 : s = s'
      · by_cases h3 : fl = fl'
        · simp [h1, h2, h3, bsel]
        · simp [h1, h2, h3, bsel]
      · simp [h1, h2, bsel]
    · simp [h1, bsel]
  rw [hdec]
  generalize decide (l = l') = q at hq
  refine stCall2 Go.Proofs.Tryz.func48 rfl (by decide) ?_
  conv => whnf
  by_cases h1 : c = c'
  · refine br_t (decide_eq_true h1) ?_
    rw [decide_eq_true h1]
    conv => whnf
    by_cases h2 : s = s'
    · refine br_t (show bsel true (decide (s = s')) false = true from decide_eq_true h2) ?_
      rw [decide_eq_true h2]
      conv => whnf
      by_cases h3 : fl = fl'
      · refine br_t (show bsel true (decide (fl = fl')) false = true from decide_eq_true h3) ?_
        rw [decide_eq_true h3]
        conv => whnf
        refine Call2.mono (hq _) fun r0 H0 h => ?_
        obtain ⟨h1, h2⟩ := h
        rw [h1, h2]
        clear h1 h2 r0 H0
        conv => whnf
        exact ⟨.im _, rfl⟩
      · refine br_f (show bsel true (decide (fl = fl')) false = false from decide_eq_false h3) ?_
        rw [decide_eq_false h3]
        conv => whnf
        exact ⟨.im _, rfl⟩
    · refine br_f (show bsel true (decide (s = s')) false = false from decide_eq_false h2) ?_
      rw [decide_eq_false h2]
      conv => whnf
      exact ⟨.im _, rfl⟩
  · refine br_f (decide_eq_false h1) ?_
    rw [decide_eq_false h1]
    conv => whnf
    exact ⟨.im _, rfl⟩

end Go.Abs.Sig

/-! LCA5 -/
namespace Go.Abs.Sig
open Go.RowKit Go.Abs
set_option linter.unusedSimpArgs false
set_option linter.unusedVariables false
set_option maxRecDepth 8000
attribute [local irreducible] StCall StYield WPc Weak IterOf Lp2

/-! ### commands -/
abbrev Cm := Met × Hd × List UInt8
def ccells (c : Cm) : List V := mcells c.1 ++ hdcells c.2.1 ++ [.str c.2.2]
theorem ccells_free' (c : Cm) : ∀ v ∈ ccells c, v.Free := fun v hv => by
  unfold ccells at hv
  rcases List.mem_append.1 hv with hv | hv
  · rcases List.mem_append.1 hv with hv | hv
    · exact mcells_free' c.1 v hv
    · exact hdcells_free' c.2.1 v hv
  · obtain rfl := List.mem_singleton.1 hv
    exact .str _
theorem ccells_free (c : Cm) : (V.agg (ccells c)).Free := .agg _ (ccells_free' c)
theorem vw_hdE {n : Nat} {a b c : Int} {es : Nat} {l : List Val'} {fl : Fl} (h : es = 2 ∨ l = []) : VW n (.agg [.int .i64 a, .int .u64 b, .int .u64 c, .dat es (vals l) fl]) (.agg (hdcells (a, b, c, l))) := by
  refine .agg _ _ rfl fun i v v' h1 h2 => ?_
  match i, h1, h2 with
  | 0, h1, h2 => cases h1; cases h2; exact .im _
  | 1, h1, h2 => cases h1; cases h2; exact .im _
  | 2, h1, h2 => cases h1; cases h2; exact .im _
  | 3, h1, h2 =>
    cases h1; cases h2
    rcases h with rfl | rfl
    · exact .no _ _ _
    · exact .nil _ _ _ _ (.inr (.inl rfl))
  | i + 4, h1, h2 => simp at h1
def zHd : Hd := (0, 0, 0, [])
def cRight (c : Cm) : Int :=
  if mright tbv c.1 ≠ 0 then mright tbv c.1
  else if content c.1.1 c.1.2.1 = false then (if c.2.1 ≠ zHd ∨ c.2.2 ≠ [] then 3 else 0)
  else if hRight c.2.1 ≠ 0 then hRight c.2.1
  else if c.2.1.2.1 ≠ (c.2.2.length : Int) then 3 else 0
/-- All texts of a command are short enough. -/
def CmS (c : Cm) : Prop := (∀ v ∈ c.1.2.2, v.2.length ≤ maxBytes) ∧ (∀ v ∈ c.2.1.2.2.2, v.2.length ≤ maxBytes) ∧ c.2.1.2.2.2.length ≤ maxLen ∧ c.2.2.length ≤ maxBytes

theorem content_ct (G : Nat → Option (List V)) (c i : Int) (H : Heap) : Call2 Go.Proofs.Tryz.prog G 47 [.int .i64 c, .int .i64 i] H fun v H' => H' = H ∧ v = .bool (content c i) := by
  refine Call2.free (int_free (vs := [c, i])) ?_ H
  refine stCall2 Go.Proofs.Tryz.func47 rfl (by decide) ?_
  conv => whnf
  iterate 5 (all_goals try (refine br_intro ?_ ?_ <;> intro h <;> conv => whnf))
  all_goals refine ⟨.im _, ?_⟩
  all_goals simp_all [content, V.strip, bsel]

theorem cright_ct (G : Nat → Option (List V)) (hG : G 1 = some wV) (c : Cm) (hc : CmS c) (H : Heap) : Call2 Go.Proofs.Tryz.prog G 23 [.agg (ccells c)] H fun r H' => H' = H ∧ r = .int .i64 (cRight c) := by
  refine Call2.free (fun x hx => by
    simp only [List.mem_cons, List.not_mem_nil, or_false] at hx
    rcases hx with rfl
    exact ccells_free _) ?_ H
  obtain ⟨hc1, hc2, hc3, hc4⟩ := hc
  have h1 := mrightT_ct G hG c.1 (fun v hv => le_maxStr (hc1 v hv))
  have h2 := content_ct G c.1.1 c.1.2.1
  have h3 := psame_ct G c.2.1 zHd hc3
  have h4 := hright_ct G hG c.2.1 (fun v hv => le_maxStr (hc2 v hv))
  have hd : decide (c.2.1 = zHd) = !decide (c.2.1 ≠ zHd) := by simp
  rw [hd] at h3
  have hb : c.2.2.length ≤ 140737488355328 := hc4
  unfold cRight
  generalize mright tbv c.1 = e1 at h1 ⊢
  generalize content c.1.1 c.1.2.1 = e2 at h2 ⊢
  generalize hRight c.2.1 = e4 at h4 ⊢
  have hz : (if c.2.1 ≠ zHd ∨ c.2.2 ≠ [] then (3 : Int) else 0) = if decide (c.2.1 ≠ zHd) = true ∨ c.2.2 ≠ [] then 3 else 0 := by simp
  rw [hz]
  generalize decide (c.2.1 ≠ zHd) = e3 at h3 ⊢
  clear hz hd
  obtain ⟨⟨a, b, l⟩, ⟨x, y, z, k⟩, s⟩ := c
  simp only at h1 h2 h3 h4 hb ⊢
  have hws : IntKind.u64.wrap (s.length : Int) = (s.length : Int) := wrap_u64 (by omega) (by omega)
  refine stCall2 Go.Proofs.Tryz.func23 rfl (by decide) ?_
  conv => whnf
  refine Call2.mono (h1 _) fun r0 H0 h => ?_
  obtain ⟨h1, h2⟩ := h
  rw [h1, h2]
  clear h1 h2 r0 H0
  conv => whnf
  by_cases he : e1 ≠ 0
  · refine br_t (decide_eq_true he) ?_
    rw [if_pos he]
    conv => whnf
    exact ⟨.im _, rfl⟩
  refine br_f (decide_eq_false he) ?_
  rw [if_neg he]
  conv => whnf
  refine Call2.mono (h2 _) fun r0 H0 h => ?_
  obtain ⟨h1, h2⟩ := h
  rw [h1, h2]
  clear h1 h2 r0 H0
  conv => whnf
  cases e2 with
  | false =>
    rw [if_pos rfl]
    conv => whnf
    refine Call2.weakA (args' := [.agg (hdcells (x, y, z, k)), .agg (hdcells zHd)]) (.cons (.free (hdcells_free _)) (.cons (vw_hdE (l := []) (.inr rfl)) .nil)) (Call2.mono (h3 _) fun r0 H0 h => ?_)
    obtain ⟨h1, h2⟩ := h
    rw [h1, h2]
    clear h1 h2 r0 H0
    conv => whnf
    cases e3 with
    | true =>
      rw [if_pos (.inl rfl)]
      conv => whnf
      exact ⟨.im _, rfl⟩
    | false =>
      conv => whnf
      by_cases hs : s = []
      · subst hs
        conv => whnf
        exact ⟨.im _, rfl⟩
      · refine br_t (show bsel false true (decide (s ≠ [])) = true from decide_eq_true hs) ?_
        rw [if_pos (.inr hs)]
        conv => whnf
        exact ⟨.im _, rfl⟩
  | true =>
    rw [if_neg (by decide)]
    conv => whnf
    refine Call2.mono (h4 _) fun r0 H0 h => ?_
    obtain ⟨h1, h2⟩ := h
    rw [h1, h2]
    clear h1 h2 r0 H0
    conv => whnf
    by_cases h4 : e4 = 0
    · subst h4
      rw [if_neg (fun h => h rfl)]
      conv => whnf
      rw [hws]
      by_cases h5 : y = (s.length : Int)
      · refine br_f (show bsel true (decide (y ≠ (s.length : Int))) false = false from decide_eq_false (fun h => h h5)) ?_
        rw [if_neg (fun h => h h5)]
        conv => whnf
        exact ⟨.im _, rfl⟩
      · refine br_t (show bsel true (decide (y ≠ (s.length : Int))) false = true from decide_eq_true h5) ?_
        rw [if_pos h5]
        conv => whnf
        exact ⟨.im _, rfl⟩
    · refine br_f (decide_eq_false h4) ?_
      rw [if_pos h4]
      conv => whnf
      exact ⟨.im _, rfl⟩

end Go.Abs.Sig

/-! LA2 -/
namespace Go.Abs.Sig
open Go.RowKit Go.Abs
set_option linter.unusedSimpArgs false
set_option linter.unusedVariables false
set_option maxRecDepth 8000
attribute [local irreducible] StCall StYield WPc Weak IterOf Lp2

/-! what a lease holds -/
structure TagsL where
  nx : Int
  la : Int
  l : List (Int × Int)
structure SeqL where
  on : Bool
  nx : Int
  off : Int
  l : List Int
abbrev Nm := List UInt8 × List UInt8 × Bool
structure NamesL where
  who : Int
  made : Int
  l : List Nm
structure LeaseL where
  who : Int
  t : TagsL
  s : SeqL
  n : NamesL
  tx : Bool
  gets : List Bool
  most : Int
def tagR (l : List (Int × Int)) : List (List V) := l.map fun x => [.int .u64 x.1, .int .u64 x.2]
def numR (l : List Int) : List (List V) := l.map fun x => [.int .u64 x]
def nmcells (x : Nm) : List V := [.str x.1, .str x.2.1, .bool x.2.2]
def nmR (l : List Nm) : List (List V) := l.map nmcells
def boolR (l : List Bool) : List (List V) := l.map fun x => [.bool x]
def tagsC (t : TagsL) : List V := [.int .u64 t.nx, .int .u64 t.la, .dat 2 (tagR t.l) .no]
def seqC (s : SeqL) : List V := [.bool s.on, .int .u64 s.nx, .int .u64 s.off, .dat 1 (numR s.l) .no]
def namesC (n : NamesL) : List V := [.int .i64 n.who, .int .u64 n.made, .dat 3 (nmR n.l) .no]
def leaseC (l : LeaseL) : List V := [.int .i64 l.who] ++ tagsC l.t ++ seqC l.s ++ namesC l.n ++ [.bool l.tx, .dat 1 (boolR l.gets) .no, .int .i64 l.most]

theorem tagsC_free' (t : TagsL) : ∀ v ∈ tagsC t, v.Free := by
  intro v hv
  simp only [tagsC, List.mem_cons, List.not_mem_nil, or_false] at hv
  rcases hv with rfl | rfl | rfl
  · exact .im _
  · exact .im _
  · exact .dat _ _ _ (by simp)
theorem seqC_free' (t : SeqL) : ∀ v ∈ seqC t, v.Free := by
  intro v hv
  simp only [seqC, List.mem_cons, List.not_mem_nil, or_false] at hv
  rcases hv with rfl | rfl | rfl | rfl
  · exact .im _
  · exact .im _
  · exact .im _
  · exact .dat _ _ _ (by simp)
theorem namesC_free' (t : NamesL) : ∀ v ∈ namesC t, v.Free := by
  intro v hv
  simp only [namesC, List.mem_cons, List.not_mem_nil, or_false] at hv
  rcases hv with rfl | rfl | rfl
  · exact .im _
  · exact .im _
  · exact .dat _ _ _ (by simp)
theorem leaseC_free' (l : LeaseL) : ∀ v ∈ leaseC l, v.Free := by
  intro v hv
  simp only [leaseC, List.mem_append, List.mem_cons, List.not_mem_nil, or_false] at hv
  rcases hv with (((rfl | hv) | hv) | hv) | rfl | rfl | rfl
  · exact .im _
  · exact tagsC_free' _ v hv
  · exact seqC_free' _ v hv
  · exact namesC_free' _ v hv
  · exact .im _
  · exact .dat _ _ _ (by simp)
  · exact .im _

theorem range_all_succ (f : Nat → Bool) (j : Nat) : (List.range (j + 1)).all f = ((List.range j).all f && f j) := by
  rw [List.range_succ, List.all_append]
  simp
theorem range_all_bad {f : Nat → Bool} {j n : Nat} (hj : j < n) (h : f j = false) : (List.range n).all f = false := by
  rw [List.all_eq_false]
  exact ⟨j, List.mem_range.2 hj, by simp [h]⟩

theorem rowGet {α β : Type} (f : α → β) (l : List α) (j : Nat) (h : j < l.length) : (l.map f)[Int.toNat (j : Int)]? = some (f l[j]) := by simp [h]

/-! chapter 15: right -/
def tAt (t : TagsL) (i : Nat) : Bool := match t.l[i]? with
  | some x => decide (1 ≤ x.1) && decide (x.1 < t.nx) && decide (1 ≤ x.2) && decide (x.2 ≤ t.la) && (decide (i = 0) || match t.l[i - 1]? with
    | some y => decide (y.1 < x.1) && decide (y.2 < x.2)
    | none => true)
  | none => true
def tRight (t : TagsL) : Bool := decide (1 ≤ t.nx) && (List.range t.l.length).all (tAt t)

def trS (t : TagsL) (j : Nat) : S2 := headS 68 ([.bad, .ptr 0 0, .bad, .int .i64 (j : Int)] ++ List.replicate 64 .bad) [some (.cells 25 (tagsC t))] [] none
theorem tright_ct (G : Nat → Option (List V)) (t : TagsL) (hl : t.l.length ≤ maxLen) (H : Heap) : Call2 Go.Proofs.Tryz.prog G 20 [.agg (tagsC t)] H fun r H' => H' = H ∧ r = .bool (tRight t) := by
  refine Call2.free (fun x hx => by
    simp only [List.mem_cons, List.not_mem_nil, or_false] at hx
    subst hx
    exact .agg _ (tagsC_free' _)) ?_ H
  obtain ⟨nx, la, l⟩ := t
  have hl' : l.length ≤ 9223372036854775807 := hl
  have hvl : (tagR l).length = l.length := by simp [tagR]
  refine stCall2 Go.Proofs.Tryz.func20 rfl (by decide) ?_
  conv => whnf
  by_cases h0 : nx < 1
  · refine br_t (decide_eq_true h0) ?_
    conv => whnf
    have hb : tRight ⟨nx, la, l⟩ = false := by unfold tRight; simp; intro h; omega
    rw [hb]
    exact ⟨.im _, rfl⟩
  refine br_f (decide_eq_false h0) ?_
  conv => whnf
  intro hw
  refine wpc_loop2 (fun n1 s1 => ∃ j : Nat, j ≤ l.length ∧ n1 = l.length - j ∧ s1 = trS ⟨nx, la, l⟩ j ∧ (List.range j).all (tAt ⟨nx, la, l⟩) = true) l.length (trS ⟨nx, la, l⟩ 0) ?_ ⟨0, by omega, rfl, rfl, rfl⟩ ?_ ?_
  · exact weak2 hw rfl ⟨.ptr 0 0 (of_decide_eq_true rfl), .im _, trivial⟩ (.cons (.free (tagsC_free' _)) (.nil _)) (fun id hid => by cases hid) rfl (fun id hid => by cases hid)
  · rintro n1 s1 ⟨j, _, _, rfl, _⟩
    exact ⟨⟨Nat.le_refl 68, fun x hx => by cases hx⟩, rfl, Nat.le_refl _, rfl⟩
  · rintro n1 s1 ⟨j, hj, rfl, rfl, hinv⟩
    by_cases hjl : j < l.length
    · have hd0 : (true && true && decide ((0 : Int) ≤ (j : Int))) = true := by simp
      have hwj : IntKind.i64.wrap ((j : Int) + 1) = ((j + 1 : Nat) : Int) := by rw [wrap_i64 (by omega) (by omega)]; rfl
      have hg1 : (tagR l)[Int.toNat (j : Int)]? = some [.int .u64 l[j].1, .int .u64 l[j].2] := rowGet _ l j hjl
      conv => whnf
      refine br_t (decide_eq_true (by rw [hvl]; omega)) ?_
      conv => whnf
      refine grd_intro hd0 (optK_intro hg1 ?_)
      conv => whnf
      have hta : tAt ⟨nx, la, l⟩ j = (decide (1 ≤ l[j].1) && decide (l[j].1 < nx) && decide (1 ≤ l[j].2) && decide (l[j].2 ≤ la) && (decide (j = 0) || match l[j - 1]? with
        | some y => decide (y.1 < l[j].1) && decide (y.2 < l[j].2)
        | none => true)) := by unfold tAt; simp only [List.getElem?_eq_getElem hjl]
      have bad : tAt ⟨nx, la, l⟩ j = false → tRight ⟨nx, la, l⟩ = false := fun h => by
        show (decide (1 ≤ nx) && (List.range l.length).all _) = false
        rw [range_all_bad hjl h]; simp
      refine br_intro (fun c1 => ?_) (fun c1 => ?_)
      · conv => whnf
        rw [bad (by rw [hta, decide_eq_false (show ¬1 ≤ l[j].1 by have := of_decide_eq_true c1; omega)]; rfl)]
        exact ⟨.im _, rfl⟩
      conv => whnf
      refine br_intro (fun c2 => ?_) (fun c2 => ?_)
      · conv => whnf
        rw [bad (by rw [hta, decide_eq_false (show ¬l[j].1 < nx by have := of_decide_eq_true (p := nx ≤ l[j].1) c2; omega)]; simp)]
        exact ⟨.im _, rfl⟩
      conv => whnf
      refine br_intro (fun c3 => ?_) (fun c3 => ?_)
      · conv => whnf
        rw [bad (by rw [hta, decide_eq_false (show ¬1 ≤ l[j].2 by have := of_decide_eq_true (p := l[j].2 < 1) c3; omega)]; simp)]
        exact ⟨.im _, rfl⟩
      conv => whnf
      refine br_intro (fun c4 => ?_) (fun c4 => ?_)
      · conv => whnf
        rw [bad (by rw [hta, decide_eq_false (show ¬l[j].2 ≤ la by have := of_decide_eq_true (p := la < l[j].2) c4; omega)]; simp)]
        exact ⟨.im _, rfl⟩
      conv => whnf
      have d1 := of_decide_eq_false (p := l[j].1 < 1) c1
      have d2 := of_decide_eq_false (p := nx ≤ l[j].1) c2
      have d3 := of_decide_eq_false (p := l[j].2 < 1) c3
      have d4 := of_decide_eq_false (p := la < l[j].2) c4
      intro hw2
      refine wpc_draw2 26 (by rfl) (by decide) (by decide) hw2 ?_
      conv => whnf
      have fin : tAt ⟨nx, la, l⟩ j = true → (List.range (j + 1)).all (tAt ⟨nx, la, l⟩) = true := fun h => by rw [range_all_succ, hinv, h]; rfl
      by_cases hj0 : j = 0
      · refine br_f (decide_eq_false (by omega)) ?_
        have hta1 := fin (by rw [hta, decide_eq_true (show 1 ≤ l[j].1 by omega), decide_eq_true (show l[j].1 < nx by omega), decide_eq_true (show 1 ≤ l[j].2 by omega), decide_eq_true (show l[j].2 ≤ la by omega), decide_eq_true hj0]; rfl)
        conv => whnf
        intro hw3
        refine ⟨l.length - (j + 1), trS ⟨nx, la, l⟩ (j + 1), by omega, ?_, j + 1, by omega, rfl, rfl, hta1⟩
        exact weak2 hw3 rfl ⟨.ptr 0 0 (of_decide_eq_true rfl), .int hwj, trivial⟩ (.cons (.free (tagsC_free' _)) (.nil _)) (fun id hid => by cases hid) rfl (fun id hid => by cases hid)
      refine br_t (decide_eq_true (by omega)) ?_
      have hwm : IntKind.i64.wrap ((j : Int) - 1) = ((j - 1 : Nat) : Int) := by rw [wrap_i64 (by omega) (by omega)]; omega
      have hd1 : (true && true && decide ((0 : Int) ≤ ((j - 1 : Nat) : Int))) = true := by simp
      have hg2 : (tagR l)[Int.toNat ((j - 1 : Nat) : Int)]? = some [.int .u64 l[j - 1].1, .int .u64 l[j - 1].2] := rowGet _ l (j - 1) (by omega)
      have hta2 : tAt ⟨nx, la, l⟩ j = (decide (l[j - 1].1 < l[j].1) && decide (l[j - 1].2 < l[j].2)) := by
        rw [hta, decide_eq_true (show 1 ≤ l[j].1 by omega), decide_eq_true (show l[j].1 < nx by omega), decide_eq_true (show 1 ≤ l[j].2 by omega), decide_eq_true (show l[j].2 ≤ la by omega), decide_eq_false hj0, List.getElem?_eq_getElem (show j - 1 < l.length by omega)]
        simp
      conv => whnf
      rw [hwm]
      conv => whnf
      refine grd_intro hd1 (optK_intro hg2 ?_)
      conv => whnf
      refine br_intro (fun c5 => ?_) (fun c5 => ?_)
      · conv => whnf
        rw [bad (by rw [hta2, decide_eq_false (show ¬l[j - 1].1 < l[j].1 by have := of_decide_eq_true c5; omega)]; rfl)]
        exact ⟨.im _, rfl⟩
      conv => whnf
      rw [hwm]
      conv => whnf
      refine grd_intro hd1 (optK_intro hg2 ?_)
      conv => whnf
      refine br_intro (fun c6 => ?_) (fun c6 => ?_)
      · conv => whnf
        rw [bad (by rw [hta2, decide_eq_false (show ¬l[j - 1].2 < l[j].2 by have := of_decide_eq_true (p := l[j].2 ≤ l[j - 1].2) c6; omega)]; simp)]
        exact ⟨.im _, rfl⟩
      have d5 := of_decide_eq_false (p := l[j].1 ≤ l[j - 1].1) c5
      have d6 := of_decide_eq_false (p := l[j].2 ≤ l[j - 1].2) c6
      have hta1 := fin (by rw [hta2, decide_eq_true (show l[j - 1].1 < l[j].1 by omega), decide_eq_true (show l[j - 1].2 < l[j].2 by omega)]; rfl)
      conv => whnf
      intro hw3
      refine ⟨l.length - (j + 1), trS ⟨nx, la, l⟩ (j + 1), by omega, ?_, j + 1, by omega, rfl, rfl, hta1⟩
      exact weak2 hw3 rfl ⟨.ptr 0 0 (of_decide_eq_true rfl), .int hwj, trivial⟩ (.cons (.free (tagsC_free' _)) (.nil _)) (fun id hid => by cases hid) rfl (fun id hid => by cases hid)
    · conv => whnf
      refine br_f (decide_eq_false (by rw [hvl]; omega)) ?_
      conv => whnf
      have hb : tRight ⟨nx, la, l⟩ = true := by
        have hje : j = l.length := by omega
        subst hje
        show (decide (1 ≤ nx) && (List.range l.length).all _) = true
        rw [hinv, decide_eq_true (by omega)]; rfl
      rw [hb]
      exact ⟨.im _, rfl⟩
end Go.Abs.Sig

/-! LA3 -/
namespace Go.Abs.Sig
open Go.RowKit Go.Abs
set_option linter.unusedSimpArgs false
set_option linter.unusedVariables false
set_option maxRecDepth 8000
attribute [local irreducible] StCall StYield WPc Weak IterOf Lp2

/-! chapter 16: right -/
def U64 (x : Int) : Prop := 0 ≤ x ∧ x < 18446744073709551616
def sAt (s : SeqL) (i : Nat) : Bool := match s.l[i]? with
  | some x => decide (1 ≤ x) && decide (x < s.nx) && (decide (i = 0) || match s.l[i - 1]? with
    | some y => decide (y < x)
    | none => true)
  | none => true
def sRight (s : SeqL) : Bool := match s.on with
  | true => decide (1 ≤ s.nx) && decide (s.off ≤ 18446744073709551615 - s.nx) && (List.range s.l.length).all (sAt s)
  | false => decide (s.nx = 0) && decide (s.off = 0) && decide (s.l.length = 0)

def srS (t : SeqL) (j : Nat) : S2 := headS 73 ([.bad, .ptr 0 0, .bad, .int .i64 (j : Int)] ++ List.replicate 69 .bad) [some (.cells 28 (seqC t))] [] none
theorem sright_ct (G : Nat → Option (List V)) (t : SeqL) (hl : t.l.length ≤ maxLen) (hn : U64 t.nx) (H : Heap) : Call2 Go.Proofs.Tryz.prog G 21 [.agg (seqC t)] H fun r H' => H' = H ∧ r = .bool (sRight t) := by
  refine Call2.free (fun x hx => by
    simp only [List.mem_cons, List.not_mem_nil, or_false] at hx
    subst hx
    exact .agg _ (seqC_free' _)) ?_ H
  obtain ⟨on, nx, off, l⟩ := t
  have hl' : l.length ≤ 9223372036854775807 := hl
  have hn : 0 ≤ nx ∧ nx < 18446744073709551616 := hn
  have hvl : (numR l).length = l.length := by simp [numR]
  refine stCall2 Go.Proofs.Tryz.func21 rfl (by decide) ?_
  conv => whnf
  cases on
  · conv => whnf
    have hr : sRight ⟨false, nx, off, l⟩ = (decide (nx = 0) && decide (off = 0) && decide (l.length = 0)) := rfl
    rw [hr]
    refine br_intro (fun c1 => ?_) (fun c1 => ?_)
    · conv => whnf
      refine br_intro (fun c2 => ?_) (fun c2 => ?_)
      · conv => whnf
        refine ⟨.im _, ?_⟩
        have d1 := of_decide_eq_true (p := nx = 0) c1
        have d2 := of_decide_eq_true (p := off = 0) c2
        rw [decide_eq_true d1, decide_eq_true d2]
        show V.bool (decide (((numR l).length : Int) = 0)) = V.bool (decide (l.length = 0))
        rw [hvl]
        congr 1
        rw [Bool.eq_iff_iff, decide_eq_true_eq, decide_eq_true_eq]
        omega
      · conv => whnf
        refine ⟨.im _, ?_⟩
        rw [decide_eq_false (of_decide_eq_false (p := off = 0) c2)]
        simp
        rfl
    · conv => whnf
      refine ⟨.im _, ?_⟩
      rw [decide_eq_false (of_decide_eq_false (p := nx = 0) c1)]
      rfl
  conv => whnf
  have hr : sRight ⟨true, nx, off, l⟩ = (decide (1 ≤ nx) && decide (off ≤ 18446744073709551615 - nx) && (List.range l.length).all (sAt ⟨true, nx, off, l⟩)) := rfl
  refine br_intro (fun c1 => ?_) (fun c1 => ?_)
  · conv => whnf
    rw [hr, decide_eq_false (show ¬1 ≤ nx by have := of_decide_eq_true (p := nx < 1) c1; omega)]
    exact ⟨.im _, rfl⟩
  have d1 := of_decide_eq_false (p := nx < 1) c1
  have hws : IntKind.u64.wrap (18446744073709551615 - nx) = 18446744073709551615 - nx := wrap_u64 (by omega) (by omega)
  conv => whnf
  rw [hws]
  refine br_intro (fun c2 => ?_) (fun c2 => ?_)
  · conv => whnf
    rw [hr, decide_eq_false (show ¬off ≤ 18446744073709551615 - nx by have := of_decide_eq_true (p := 18446744073709551615 - nx < off) c2; omega)]
    simp only [Bool.and_false, Bool.false_and]
    exact ⟨.im _, rfl⟩
  have d2 := of_decide_eq_false (p := 18446744073709551615 - nx < off) c2
  rw [decide_eq_true (show 1 ≤ nx by omega), decide_eq_true (show off ≤ 18446744073709551615 - nx by omega)] at hr
  simp only [Bool.true_and] at hr
  conv => whnf
  intro hw
  refine wpc_loop2 (fun n1 s1 => ∃ j : Nat, j ≤ l.length ∧ n1 = l.length - j ∧ s1 = srS ⟨true, nx, off, l⟩ j ∧ (List.range j).all (sAt ⟨true, nx, off, l⟩) = true) l.length (srS ⟨true, nx, off, l⟩ 0) ?_ ⟨0, by omega, rfl, rfl, rfl⟩ ?_ ?_
  · exact weak2 hw rfl ⟨.ptr 0 0 (of_decide_eq_true rfl), .im _, trivial⟩ (.cons (.free (seqC_free' _)) (.nil _)) (fun id hid => by cases hid) rfl (fun id hid => by cases hid)
  · rintro n1 s1 ⟨j, _, _, rfl, _⟩
    exact ⟨⟨Nat.le_refl 73, fun x hx => by cases hx⟩, rfl, Nat.le_refl _, rfl⟩
  · rintro n1 s1 ⟨j, hj, rfl, rfl, hinv⟩
    by_cases hjl : j < l.length
    · have hd0 : (true && true && decide ((0 : Int) ≤ (j : Int))) = true := by simp
      have hwj : IntKind.i64.wrap ((j : Int) + 1) = ((j + 1 : Nat) : Int) := by rw [wrap_i64 (by omega) (by omega)]; rfl
      have hg1 : (numR l)[Int.toNat (j : Int)]? = some [.int .u64 l[j]] := rowGet _ l j hjl
      have hta : sAt ⟨true, nx, off, l⟩ j = (decide (1 ≤ l[j]) && decide (l[j] < nx) && (decide (j = 0) || match l[j - 1]? with
        | some y => decide (y < l[j])
        | none => true)) := by unfold sAt; simp only [List.getElem?_eq_getElem hjl]
      have bad : sAt ⟨true, nx, off, l⟩ j = false → sRight ⟨true, nx, off, l⟩ = false := fun h => by rw [hr]; exact range_all_bad hjl h
      have fin : sAt ⟨true, nx, off, l⟩ j = true → (List.range (j + 1)).all (sAt ⟨true, nx, off, l⟩) = true := fun h => by rw [range_all_succ, hinv, h]; rfl
      conv => whnf
      refine br_t (decide_eq_true (by rw [hvl]; omega)) ?_
      conv => whnf
      intro hw2
      refine wpc_draw2 34 (by rfl) (by decide) (by decide) hw2 ?_
      conv => whnf
      refine grd_intro hd0 (optK_intro hg1 ?_)
      conv => whnf
      refine br_intro (fun c3 => ?_) (fun c3 => ?_)
      · conv => whnf
        rw [bad (by rw [hta, decide_eq_false (show ¬1 ≤ l[j] by have := of_decide_eq_true (p := l[j] < 1) c3; omega)]; rfl)]
        exact ⟨.im _, rfl⟩
      have d3 := of_decide_eq_false (p := l[j] < 1) c3
      conv => whnf
      refine grd_intro hd0 (optK_intro hg1 ?_)
      conv => whnf
      refine br_intro (fun c4 => ?_) (fun c4 => ?_)
      · conv => whnf
        rw [bad (by rw [hta, decide_eq_false (show ¬l[j] < nx by have := of_decide_eq_true (p := nx ≤ l[j]) c4; omega)]; simp)]
        exact ⟨.im _, rfl⟩
      have d4 := of_decide_eq_false (p := nx ≤ l[j]) c4
      conv => whnf
      by_cases hj0 : j = 0
      · refine br_f (decide_eq_false (by omega)) ?_
        have hta1 := fin (by rw [hta, decide_eq_true (show 1 ≤ l[j] by omega), decide_eq_true (show l[j] < nx by omega), decide_eq_true hj0]; rfl)
        conv => whnf
        intro hw3
        refine ⟨l.length - (j + 1), srS ⟨true, nx, off, l⟩ (j + 1), by omega, ?_, j + 1, by omega, rfl, rfl, hta1⟩
        exact weak2 hw3 rfl ⟨.ptr 0 0 (of_decide_eq_true rfl), .int hwj, trivial⟩ (.cons (.free (seqC_free' _)) (.nil _)) (fun id hid => by cases hid) rfl (fun id hid => by cases hid)
      refine br_t (decide_eq_true (by omega)) ?_
      have hwm : IntKind.i64.wrap ((j : Int) - 1) = ((j - 1 : Nat) : Int) := by rw [wrap_i64 (by omega) (by omega)]; omega
      have hd1 : (true && true && decide ((0 : Int) ≤ ((j - 1 : Nat) : Int))) = true := by simp
      have hg2 : (numR l)[Int.toNat ((j - 1 : Nat) : Int)]? = some [.int .u64 l[j - 1]] := rowGet _ l (j - 1) (by omega)
      have hta2 : sAt ⟨true, nx, off, l⟩ j = decide (l[j - 1] < l[j]) := by
        rw [hta, decide_eq_true (show 1 ≤ l[j] by omega), decide_eq_true (show l[j] < nx by omega), decide_eq_false hj0, List.getElem?_eq_getElem (show j - 1 < l.length by omega)]
        simp
      conv => whnf
      rw [hwm]
      conv => whnf
      refine grd_intro hd1 (optK_intro hg2 ?_)
      conv => whnf
      refine grd_intro hd0 (optK_intro hg1 ?_)
      conv => whnf
      refine br_intro (fun c5 => ?_) (fun c5 => ?_)
      · conv => whnf
        rw [bad (by rw [hta2]; exact decide_eq_false (by have := of_decide_eq_true (p := l[j] ≤ l[j - 1]) c5; omega))]
        exact ⟨.im _, rfl⟩
      have d5 := of_decide_eq_false (p := l[j] ≤ l[j - 1]) c5
      have hta1 := fin (by rw [hta2]; exact decide_eq_true (by omega))
      conv => whnf
      intro hw3
      refine ⟨l.length - (j + 1), srS ⟨true, nx, off, l⟩ (j + 1), by omega, ?_, j + 1, by omega, rfl, rfl, hta1⟩
      exact weak2 hw3 rfl ⟨.ptr 0 0 (of_decide_eq_true rfl), .int hwj, trivial⟩ (.cons (.free (seqC_free' _)) (.nil _)) (fun id hid => by cases hid) rfl (fun id hid => by cases hid)
    · conv => whnf
      refine br_f (decide_eq_false (by rw [hvl]; omega)) ?_
      conv => whnf
      have hb : sRight ⟨true, nx, off, l⟩ = true := by
        have hje : j = l.length := by omega
        subst hje
        rw [hr, hinv]
      rw [hb]
      exact ⟨.im _, rfl⟩

/-! chapter 17: a number's figures -/
def fig (n : Nat) : List UInt8 := if n < 10 then [UInt8.ofNat (48 + n)] else fig (n / 10) ++ [UInt8.ofNat (48 + n % 10)]
termination_by n
decreasing_by omega
end Go.Abs.Sig

/-! LA4 -/
namespace Go.Abs.Sig
open Go.RowKit Go.Abs
set_option linter.unusedSimpArgs false
set_option linter.unusedVariables false
set_option maxRecDepth 8000
attribute [local irreducible] StCall StYield WPc Weak IterOf Lp2

theorem wrap_u8 {n : Int} (h0 : 0 ≤ n) (h1 : n < 256) : IntKind.u8.wrap n = n := by
  show n % 256 = n
  omega
theorem fig_len : ∀ (k n : Nat), n < 10 ^ (k + 1) → (fig n).length ≤ k + 1 := by
  intro k
  induction k with
  | zero =>
    intro n h
    rw [fig, if_pos (by omega)]
    simp
  | succ k ih =>
    intro n h
    rw [fig]
    split
    · simp
    · have := ih (n / 10) (by rw [Nat.pow_succ] at h; omega)
      rw [List.length_append]
      simp
      omega
theorem figures_ct (G : Nat → Option (List V)) : ∀ (n : Nat), n < 18446744073709551616 → ∀ H : Heap, Call2 Go.Proofs.Tryz.prog G 77 [.int .u64 (n : Int)] H fun r H' => H' = H ∧ r = .str (fig n) := by
  intro n
  induction n using Nat.strongRecOn with
  | _ n ih =>
  intro hn H
  refine Call2.free (fun x hx => by
    simp only [List.mem_cons, List.not_mem_nil, or_false] at hx
    subst hx
    exact .im _) ?_ H
  refine stCall2 Go.Proofs.Tryz.func77 rfl (by decide) ?_
  conv => whnf
  refine ⟨by decide, ?_⟩
  have e0 : Int.tmod (n : Int) 10 = ((n % 10 : Nat) : Int) := (Int.ofNat_tmod n 10).symm
  have e2 : IntKind.u8.wrap ((n % 10 : Nat) : Int) = ((n % 10 : Nat) : Int) := wrap_u8 (by omega) (by omega)
  have e3 : IntKind.u8.wrap (48 + ((n % 10 : Nat) : Int)) = ((UInt8.ofNat (48 + n % 10)).toNat : Int) := by
    rw [wrap_u8 (by omega) (by omega)]
    have : (UInt8.ofNat (48 + n % 10)).toNat = (48 + n % 10) % 256 := rfl
    rw [this]; omega
  conv => whnf
  refine ⟨rfl, .inr rfl, [UInt8.ofNat (48 + n % 10)], ?_, ?_⟩
  · show [[V.int .u8 (IntKind.u8.wrap (48 + IntKind.u8.wrap (Int.tmod (n : Int) 10)))]] = [[V.int .u8 _]]
    rw [e0, e2, e3]
  conv => whnf
  rw [fig]
  by_cases h10 : n < 10
  · refine br_f (decide_eq_false (by omega)) ?_
    rw [if_pos h10, Nat.mod_eq_of_lt h10]
    conv => whnf
    exact ⟨.str _, rfl⟩
  · refine br_t (decide_eq_true (by omega)) ?_
    rw [if_neg h10]
    have e4 : IntKind.u64.wrap (Int.tdiv (n : Int) 10) = ((n / 10 : Nat) : Int) := by
      have : Int.tdiv (n : Int) 10 = ((n / 10 : Nat) : Int) := (Int.ofNat_tdiv n 10).symm
      rw [this]; exact wrap_u64 (by omega) (by omega)
    have hih := ih (n / 10) (by omega) (by omega)
    conv => whnf
    refine ⟨by decide, ?_⟩
    conv => whnf
    rw [e4]
    refine Call2.mono (hih _) fun r0 H0 h => ?_
    obtain ⟨h1, h2⟩ := h
    rw [h1, h2]
    clear h1 h2 r0 H0
    conv => whnf
    refine ⟨?_, ?_⟩
    · have := fig_len 19 (n / 10) (by omega)
      show (((fig (n / 10)).length + 1 : Nat) : Int) ≤ 9223372036854775807
      omega
    conv => whnf
    exact ⟨.str _, rfl⟩
end Go.Abs.Sig

/-! LA5 -/
namespace Go.Abs.Sig
open Go.RowKit Go.Abs
set_option linter.unusedSimpArgs false
set_option linter.unusedVariables false
set_option maxRecDepth 8000
attribute [local irreducible] StCall StYield WPc Weak IterOf Lp2

/-! chapter 17 -/
def upS (who : Int) (mine : List UInt8) : List UInt8 := fig who.toNat ++ [47] ++ mine
def upL (who : Int) (mine : List UInt8) : List UInt8 × Int := if who < 1 then ([], 1) else if mine = [] then ([], 1) else if 255 < (upS who mine).length then ([], 4) else (upS who mine, 0)

theorem rup_ct (G : Nat → Option (List V)) (who : Int) (hw : who < 9223372036854775808) (mine : List UInt8) (hm : mine.length ≤ maxStr) (H : Heap) :
    Call2 Go.Proofs.Tryz.prog G 45 [.int .i64 who, .str mine] H fun r H' => H' = H ∧ r = .tup [.str (upL who mine).1, .int .i64 (upL who mine).2] := by
  refine Call2.free (fun x hx => by
    simp only [List.mem_cons, List.not_mem_nil, or_false] at hx
    rcases hx with rfl | rfl
    · exact .im _
    · exact .str _) ?_ H
  unfold upL
  by_cases h1 : who < 1
  · rw [if_pos h1]
    refine stCall2 Go.Proofs.Tryz.func45 rfl (by decide) ?_
    conv => whnf
    refine br_t (decide_eq_true h1) ?_
    conv => whnf
    exact ⟨.tup _ (by simp; exact ⟨.str _, .im _⟩), rfl⟩
  rw [if_neg h1]
  by_cases h2 : mine = []
  · rw [if_pos h2]
    refine stCall2 Go.Proofs.Tryz.func45 rfl (by decide) ?_
    conv => whnf
    refine br_f (decide_eq_false h1) ?_
    conv => whnf
    refine br_t (show decide (mine = []) = true from decide_eq_true h2) ?_
    conv => whnf
    exact ⟨.tup _ (by simp; exact ⟨.str _, .im _⟩), rfl⟩
  rw [if_neg h2]
  have hf := figures_ct G who.toNat (by omega)
  have hx : ((who.toNat : Nat) : Int) = who := by omega
  rw [hx] at hf
  have hfl := fig_len 19 who.toNat (by omega)
  have hm' : mine.length ≤ 1152921504606846976 := by unfold maxStr at hm; omega
  generalize hS : upS who mine = s
  have hsl : (fig who.toNat ++ [47] ++ mine).length = s.length := by rw [← hS]; rfl
  unfold upS at hS
  refine stCall2 Go.Proofs.Tryz.func45 rfl (by decide) ?_
  conv => whnf
  refine br_f (decide_eq_false h1) ?_
  conv => whnf
  refine br_f (show decide (mine = []) = false from decide_eq_false h2) ?_
  have hwr : IntKind.u64.wrap who = who := wrap_u64 (by omega) (by omega)
  conv => whnf
  rw [hwr]
  refine Call2.mono (hf _) fun r0 H0 h => ?_
  obtain ⟨h1, h2⟩ := h
  rw [h1, h2]
  clear h1 h2 r0 H0
  conv => whnf
  refine ⟨?_, ?_⟩
  · show (((fig who.toNat).length + 1 : Nat) : Int) ≤ 9223372036854775807
    omega
  conv => whnf
  refine ⟨?_, ?_⟩
  · show (((fig who.toNat ++ [47]).length + mine.length : Nat) : Int) ≤ 9223372036854775807
    rw [List.length_append]
    simp
    omega
  have hS' : fig who.toNat ++ ({ data := #[47] } : ByteArray).data.toList ++ mine = s := hS
  rw [hS']
  conv => whnf
  by_cases h3 : 255 < s.length
  · rw [if_pos h3]
    refine br_t (decide_eq_true (by omega)) ?_
    conv => whnf
    exact ⟨.tup _ (by simp; exact ⟨.str _, .im _⟩), rfl⟩
  · rw [if_neg h3]
    refine br_f (decide_eq_false (by omega)) ?_
    conv => whnf
    exact ⟨.tup _ (by simp; exact ⟨.str _, .im _⟩), rfl⟩
end Go.Abs.Sig

/-! LA6 -/
namespace Go.Abs.Sig
open Go.RowKit Go.Abs
set_option linter.unusedSimpArgs false
set_option linter.unusedVariables false
set_option maxRecDepth 8000
attribute [local irreducible] StCall StYield WPc Weak IterOf Lp2

/-! chapter 17: right -/
def nmNe (l : List Nm) (x : Nm) (k : Nat) : Bool := match l[k]? with
  | some y => !decide (y.1 = x.1)
  | none => true
def nAt (n : NamesL) (i : Nat) : Bool := match n.l[i]? with
  | some x => decide ((upL n.who x.1).2 = 0) && decide ((upL n.who x.1).1 = x.2.1) && (List.range i).all (nmNe n.l x)
  | none => true
def nRight (n : NamesL) : Bool := decide (1 ≤ n.who) && (List.range n.l.length).all (nAt n)

def nrS (t : NamesL) (j : Nat) : S2 := headS 59 ([.bad, .ptr 0 0, .bad, .int .i64 (j : Int)] ++ List.replicate 55 .bad) [some (.cells 31 (namesC t))] [] none
def nrkS (t : NamesL) (j k : Nat) : S2 := headS 59 ([.bad, .ptr 0 0, .bad, .int .i64 (j : Int), .bad, .bad, .int .i64 (k : Int)] ++ List.replicate 52 .bad) [some (.cells 31 (namesC t))] [] none
def NmS (l : List Nm) : Prop := l.length ≤ maxLen ∧ ∀ x ∈ l, x.1.length ≤ maxStr ∧ x.2.1.length ≤ maxStr

theorem nright_ct (G : Nat → Option (List V)) (t : NamesL) (hl : NmS t.l) (hwho : t.who < 9223372036854775808) (H : Heap) : Call2 Go.Proofs.Tryz.prog G 22 [.agg (namesC t)] H fun r H' => H' = H ∧ r = .bool (nRight t) := by
  refine Call2.free (fun x hx => by
    simp only [List.mem_cons, List.not_mem_nil, or_false] at hx
    subst hx
    exact .agg _ (namesC_free' _)) ?_ H
  obtain ⟨who, made, l⟩ := t
  have hwho : who < 9223372036854775808 := hwho
  have hstr := hl.2
  have hl' : l.length ≤ 9223372036854775807 := hl.1
  have hvl : (nmR l).length = l.length := by simp [nmR]
  refine stCall2 Go.Proofs.Tryz.func22 rfl (by decide) ?_
  conv => whnf
  by_cases h0 : who < 1
  · refine br_t (decide_eq_true h0) ?_
    conv => whnf
    have hb : nRight ⟨who, made, l⟩ = false := by
      show (decide (1 ≤ who) && _) = false
      rw [decide_eq_false (by omega)]; rfl
    rw [hb]
    exact ⟨.im _, rfl⟩
  have hr : nRight ⟨who, made, l⟩ = (List.range l.length).all (nAt ⟨who, made, l⟩) := by
    show (decide (1 ≤ who) && _) = _
    rw [decide_eq_true (by omega)]; rfl
  refine br_f (decide_eq_false h0) ?_
  conv => whnf
  intro hw
  refine wpc_loop2 (fun n1 s1 => ∃ j : Nat, j ≤ l.length ∧ n1 = l.length - j ∧ s1 = nrS ⟨who, made, l⟩ j ∧ (List.range j).all (nAt ⟨who, made, l⟩) = true) l.length (nrS ⟨who, made, l⟩ 0) ?_ ⟨0, by omega, rfl, rfl, rfl⟩ ?_ ?_
  · exact weak2 hw rfl ⟨.ptr 0 0 (of_decide_eq_true rfl), .im _, trivial⟩ (.cons (.free (namesC_free' _)) (.nil _)) (fun id hid => by cases hid) rfl (fun id hid => by cases hid)
  · rintro n1 s1 ⟨j, _, _, rfl, _⟩
    exact ⟨⟨Nat.le_refl 59, fun x hx => by cases hx⟩, rfl, Nat.le_refl _, rfl⟩
  · rintro n1 s1 ⟨j, hj, rfl, rfl, hinv⟩
    by_cases hjl : j < l.length
    · have hd0 : (true && true && decide ((0 : Int) ≤ (j : Int))) = true := by simp
      have hwj : IntKind.i64.wrap ((j : Int) + 1) = ((j + 1 : Nat) : Int) := by rw [wrap_i64 (by omega) (by omega)]; rfl
      have hg1 : (nmR l)[Int.toNat (j : Int)]? = some (nmcells l[j]) := rowGet _ l j hjl
      have hsj := hstr l[j] (List.getElem_mem hjl)
      have hup := rup_ct G who hwho l[j].1 hsj.1
      have hta : nAt ⟨who, made, l⟩ j = (decide ((upL who l[j].1).2 = 0) && decide ((upL who l[j].1).1 = l[j].2.1) && (List.range j).all (nmNe l l[j])) := by unfold nAt; simp only [List.getElem?_eq_getElem hjl]
      have bad : nAt ⟨who, made, l⟩ j = false → nRight ⟨who, made, l⟩ = false := fun h => by rw [hr]; exact range_all_bad hjl h
      have fin : nAt ⟨who, made, l⟩ j = true → (List.range (j + 1)).all (nAt ⟨who, made, l⟩) = true := fun h => by rw [range_all_succ, hinv, h]; rfl
      generalize upL who l[j].1 = u at hup hta
      obtain ⟨us, ue⟩ := u
      conv => whnf
      refine br_t (decide_eq_true (by rw [hvl]; omega)) ?_
      conv => whnf
      intro hw2
      refine wpc_draw2 14 (by rfl) (by decide) (by decide) hw2 ?_
      conv => whnf
      refine grd_intro hd0 (optK_intro hg1 ?_)
      conv => whnf
      refine ⟨_, fun _ _ => hup _, ?_⟩
      conv => whnf
      refine br_intro (fun c1 => ?_) (fun c1 => ?_)
      · conv => whnf
        rw [bad (by rw [hta, decide_eq_false (show ¬ue = 0 by have := of_decide_eq_true (p := ue ≠ 0) c1; exact this)]; rfl)]
        exact ⟨.im _, rfl⟩
      have d1 : ue = 0 := by have := of_decide_eq_false (p := ue ≠ 0) c1; simpa using this
      conv => whnf
      refine optK_intro hg1 ?_
      conv => whnf
      refine br_intro (fun c2 => ?_) (fun c2 => ?_)
      · conv => whnf
        rw [bad (by rw [hta, decide_eq_false (show ¬us = l[j].2.1 from of_decide_eq_true (p := us ≠ l[j].2.1) c2)]; simp)]
        exact ⟨.im _, rfl⟩
      have d2 : us = l[j].2.1 := by have := of_decide_eq_false (p := us ≠ l[j].2.1) c2; simpa using this
      simp only [d1, d2, decide_true, Bool.true_and] at hta
      conv => whnf
      intro hw3
      refine wpc_loop2 (fun n1 s1 => ∃ k : Nat, k ≤ j ∧ n1 = j - k ∧ s1 = nrkS ⟨who, made, l⟩ j k ∧ (List.range k).all (nmNe l l[j]) = true) j (nrkS ⟨who, made, l⟩ j 0) ?_ ⟨0, by omega, rfl, rfl, rfl⟩ ?_ ?_
      · exact weak2 hw3 rfl ⟨.ptr 0 0 (of_decide_eq_true rfl), .im _, .im _, trivial⟩ (.cons (.free (namesC_free' _)) (.nil _)) (fun id hid => by cases hid) rfl (fun id hid => by cases hid)
      · rintro n1 s1 ⟨k, _, _, rfl, _⟩
        exact ⟨⟨Nat.le_refl 59, fun x hx => by cases hx⟩, rfl, Nat.le_refl _, rfl⟩
      · rintro n1 s1 ⟨k, hk, rfl, rfl, hinv2⟩
        by_cases hkj : k < j
        · have hd2 : (true && true && decide ((0 : Int) ≤ (k : Int))) = true := by simp
          have hwk : IntKind.i64.wrap ((k : Int) + 1) = ((k + 1 : Nat) : Int) := by rw [wrap_i64 (by omega) (by omega)]; rfl
          have hg2 : (nmR l)[Int.toNat (k : Int)]? = some (nmcells l[k]) := rowGet _ l k (by omega)
          have hne : nmNe l l[j] k = !decide (l[k].1 = l[j].1) := by unfold nmNe; simp only [List.getElem?_eq_getElem (show k < l.length by omega)]
          conv => whnf
          refine br_t (decide_eq_true (by omega)) ?_
          conv => whnf
          intro hw4
          refine wpc_draw2 13 (by rfl) (by decide) (by decide) hw4 ?_
          conv => whnf
          refine grd_intro hd2 (optK_intro hg2 ?_)
          conv => whnf
          refine grd_intro hd0 (optK_intro hg1 ?_)
          conv => whnf
          refine br_intro (fun c3 => ?_) (fun c3 => ?_)
          · conv => whnf
            rw [bad (by rw [hta]; exact range_all_bad hkj (by rw [hne, decide_eq_true (of_decide_eq_true (p := l[k].1 = l[j].1) c3)]; rfl))]
            exact ⟨.im _, rfl⟩
          conv => whnf
          intro hw5
          refine ⟨j - (k + 1), nrkS ⟨who, made, l⟩ j (k + 1), by omega, ?_, k + 1, by omega, rfl, rfl, ?_⟩
          · exact weak2 hw5 rfl ⟨.ptr 0 0 (of_decide_eq_true rfl), .im _, .int hwk, trivial⟩ (.cons (.free (namesC_free' _)) (.nil _)) (fun id hid => by cases hid) rfl (fun id hid => by cases hid)
          · rw [range_all_succ, hinv2, hne, decide_eq_false (of_decide_eq_false (p := l[k].1 = l[j].1) c3)]; rfl
        · have hkje : k = j := by omega
          have hta1 := fin (by rw [hta]; rwa [show List.range k = List.range j by rw [hkje]] at hinv2)
          conv => whnf
          refine br_f (decide_eq_false (by omega)) ?_
          conv => whnf
          intro hw4
          refine ⟨l.length - (j + 1), nrS ⟨who, made, l⟩ (j + 1), by omega, ?_, j + 1, by omega, rfl, rfl, hta1⟩
          exact weak2 hw4 rfl ⟨.ptr 0 0 (of_decide_eq_true rfl), .int hwj, trivial⟩ (.cons (.free (namesC_free' _)) (.nil _)) (fun id hid => by cases hid) rfl (fun id hid => by cases hid)
    · conv => whnf
      refine br_f (decide_eq_false (by rw [hvl]; omega)) ?_
      conv => whnf
      have hb : nRight ⟨who, made, l⟩ = true := by
        have hje : j = l.length := by omega
        subst hje
        rw [hr, hinv]
      rw [hb]
      exact ⟨.im _, rfl⟩
end Go.Abs.Sig

/-! LA7 -/
namespace Go.Abs.Sig
open Go.RowKit Go.Abs
set_option linter.unusedSimpArgs false
set_option linter.unusedVariables false
set_option maxRecDepth 8000
attribute [local irreducible] StCall StYield WPc Weak IterOf Lp2

def I64 (x : Int) : Prop := -9223372036854775808 ≤ x ∧ x < 9223372036854775808
/-- What any lease is, that is handed over. -/
structure LeaseS (l : LeaseL) : Prop where
  who : I64 l.who
  most : I64 l.most
  nwho : I64 l.n.who
  made : U64 l.n.made
  tnx : U64 l.t.nx
  tla : U64 l.t.la
  snx : U64 l.s.nx
  soff : U64 l.s.off
  tl : l.t.l.length * 16 ≤ maxBytes
  tu : ∀ x ∈ l.t.l, U64 x.1 ∧ U64 x.2
  sl : l.s.l.length * 8 ≤ maxBytes
  su : ∀ x ∈ l.s.l, U64 x
  nl : l.n.l.length * 40 ≤ maxBytes
  nu : ∀ x ∈ l.n.l, x.1.length ≤ maxBytes ∧ x.2.1.length ≤ maxBytes
  gl : l.gets.length ≤ maxBytes

def lRight (l : LeaseL) : Bool :=
  decide (1 ≤ l.who) && decide (1 ≤ l.most) && decide (l.most ≤ 1000) && tRight l.t && sRight l.s && nRight l.n && decide (l.n.who = l.who) && decide (l.s.off = 0) &&
  decide ((l.t.l.length : Int) ≤ l.most) && decide ((l.s.l.length : Int) ≤ l.most) && decide ((l.n.l.length : Int) ≤ l.most) && decide ((l.gets.length : Int) ≤ l.most)

theorem lright_ct (G : Nat → Option (List V)) (l : LeaseL) (hl : LeaseS l) (H : Heap) : Call2 Go.Proofs.Tryz.prog G 11 [.agg (leaseC l)] H fun r H' => H' = H ∧ r = .bool (lRight l) := by
  refine Call2.free (fun x hx => by
    simp only [List.mem_cons, List.not_mem_nil, or_false] at hx
    subst hx
    exact .agg _ (leaseC_free' _)) ?_ H
  have hmb : maxBytes ≤ maxLen := by decide
  have ht := tright_ct G l.t (by have := hl.tl; omega)
  have hs := sright_ct G l.s (by have := hl.sl; omega) hl.snx
  have hn := nright_ct G l.n ⟨by have := hl.nl; omega, fun x hx => ⟨le_maxStr (hl.nu x hx).1, le_maxStr (hl.nu x hx).2⟩⟩ hl.nwho.2
  unfold lRight
  generalize tRight l.t = bt at ht ⊢
  generalize sRight l.s = bs at hs ⊢
  generalize nRight l.n = bn at hn ⊢
  obtain ⟨who, t, s, n, tx, gets, most⟩ := l
  have e1 : (tagR t.l).length = t.l.length := by simp [tagR]
  have e2 : (numR s.l).length = s.l.length := by simp [numR]
  have e3 : (nmR n.l).length = n.l.length := by simp [nmR]
  have e4 : (boolR gets).length = gets.length := by simp [boolR]
  refine stCall2 Go.Proofs.Tryz.func11 rfl (by decide) ?_
  conv => whnf
  refine Call2.mono (ht _) fun r0 H0 h => ?_
  obtain ⟨h1, h2⟩ := h
  rw [h1, h2]
  clear h1 h2 r0 H0
  conv => whnf
  refine Call2.mono (hs _) fun r0 H0 h => ?_
  obtain ⟨h1, h2⟩ := h
  rw [h1, h2]
  clear h1 h2 r0 H0
  conv => whnf
  refine Call2.mono (hn _) fun r0 H0 h => ?_
  obtain ⟨h1, h2⟩ := h
  rw [h1, h2]
  clear h1 h2 r0 H0
  conv => whnf
  refine br_intro (fun c1 => ?_) (fun c1 => ?_)
  · conv => whnf
    rw [decide_eq_false (show ¬1 ≤ who by have := of_decide_eq_true (p := who < 1) c1; omega)]
    exact ⟨.im _, rfl⟩
  rw [decide_eq_true (show 1 ≤ who by have := of_decide_eq_false (p := who < 1) c1; omega)]
  conv => whnf
  refine br_intro (fun c2 => ?_) (fun c2 => ?_)
  · conv => whnf
    rw [decide_eq_false (show ¬1 ≤ most by have := of_decide_eq_true (p := most < 1) c2; omega)]
    exact ⟨.im _, rfl⟩
  rw [decide_eq_true (show 1 ≤ most by have := of_decide_eq_false (p := most < 1) c2; omega)]
  conv => whnf
  refine br_intro (fun c3 => ?_) (fun c3 => ?_)
  · conv => whnf
    rw [decide_eq_false (show ¬most ≤ 1000 by have := of_decide_eq_true (p := 1000 < most) c3; omega)]
    exact ⟨.im _, rfl⟩
  rw [decide_eq_true (show most ≤ 1000 by have := of_decide_eq_false (p := 1000 < most) c3; omega)]
  cases bt
  · conv => whnf
    exact ⟨.im _, rfl⟩
  cases bs
  · conv => whnf
    exact ⟨.im _, rfl⟩
  cases bn
  · conv => whnf
    exact ⟨.im _, rfl⟩
  conv => whnf
  refine br_intro (fun c4 => ?_) (fun c4 => ?_)
  · conv => whnf
    rw [decide_eq_false (show ¬n.who = who from of_decide_eq_true (p := n.who ≠ who) c4)]
    exact ⟨.im _, rfl⟩
  rw [decide_eq_true (show n.who = who from Decidable.of_not_not (of_decide_eq_false (p := n.who ≠ who) c4))]
  conv => whnf
  refine br_intro (fun c5 => ?_) (fun c5 => ?_)
  · conv => whnf
    rw [decide_eq_false (show ¬s.off = 0 from of_decide_eq_true (p := s.off ≠ 0) c5)]
    exact ⟨.im _, rfl⟩
  rw [decide_eq_true (show s.off = 0 from Decidable.of_not_not (of_decide_eq_false (p := s.off ≠ 0) c5))]
  conv => whnf
  refine br_intro (fun c6 => ?_) (fun c6 => ?_)
  rotate_left
  · conv => whnf
    rw [decide_eq_false (show ¬(t.l.length : Int) ≤ most by rw [← e1]; exact of_decide_eq_false (p := ((tagR t.l).length : Int) ≤ most) c6)]
    exact ⟨.im _, rfl⟩
  rw [decide_eq_true (show (t.l.length : Int) ≤ most by rw [← e1]; exact of_decide_eq_true (p := ((tagR t.l).length : Int) ≤ most) c6)]
  conv => whnf
  refine br_intro (fun c7 => ?_) (fun c7 => ?_)
  rotate_left
  · conv => whnf
    rw [decide_eq_false (show ¬(s.l.length : Int) ≤ most by rw [← e2]; exact of_decide_eq_false (p := ((numR s.l).length : Int) ≤ most) c7)]
    exact ⟨.im _, rfl⟩
  rw [decide_eq_true (show (s.l.length : Int) ≤ most by rw [← e2]; exact of_decide_eq_true (p := ((numR s.l).length : Int) ≤ most) c7)]
  conv => whnf
  refine br_intro (fun c8 => ?_) (fun c8 => ?_)
  rotate_left
  · conv => whnf
    rw [decide_eq_false (show ¬(n.l.length : Int) ≤ most by rw [← e3]; exact of_decide_eq_false (p := ((nmR n.l).length : Int) ≤ most) c8)]
    exact ⟨.im _, rfl⟩
  rw [decide_eq_true (show (n.l.length : Int) ≤ most by rw [← e3]; exact of_decide_eq_true (p := ((nmR n.l).length : Int) ≤ most) c8)]
  conv => whnf
  refine ⟨.im _, ?_⟩
  show V.bool (decide (((boolR gets).length : Int) ≤ most)) = V.bool (decide ((gets.length : Int) ≤ most))
  rw [e4]
end Go.Abs.Sig

/-! LA8 -/
namespace Go.Abs.Sig
open Go.RowKit Go.Abs
set_option linter.unusedSimpArgs false
set_option linter.unusedVariables false
set_option maxRecDepth 8000
attribute [local irreducible] StCall StYield WPc Weak IterOf Lp2

/-! chapters 7, 8: same -/
def hsS (a b : Hd) (j : Nat) : S2 := headS 52 ([.bad, .bad, .ptr 0 0, .ptr 1 0, .bad, .int .i64 (j : Int)] ++ List.replicate 46 .bad) [some (.cells 39 (hdcells a)), some (.cells 39 (hdcells b))] [] none
theorem rhsame_ct (G : Nat → Option (List V)) (a b : Hd) (hla : a.2.2.2.length ≤ maxLen) (H : Heap) : Call2 Go.Proofs.Tryz.prog G 28 [.agg (hdcells a), .agg (hdcells b)] H fun r H' => H' = H ∧ r = .bool (decide (a = b)) := by
  refine Call2.free (fun x hx => by
    simp only [List.mem_cons, List.not_mem_nil, or_false] at hx
    rcases hx with rfl | rfl
    · exact hdcells_free _
    · exact hdcells_free _) ?_ H
  obtain ⟨c, s, fl, l⟩ := a
  obtain ⟨c', s', fl', l'⟩ := b
  have hvl : (vals l).length = l.length := by simp [vals]
  have hvl' : (vals l').length = l'.length := by simp [vals]
  have hla' : l.length ≤ 9223372036854775807 := hla
  refine stCall2 Go.Proofs.Tryz.func28 rfl (by decide) ?_
  conv => whnf
  refine br_intro (fun c1 => ?_) (fun c1 => ?_)
  · conv => whnf
    have d1 := of_decide_eq_true (p := c ≠ c') c1
    rw [decide_eq_false (show ¬(((c, s, fl, l) : Hd) = (c', s', fl', l')) by simp [d1])]
    exact ⟨.im _, rfl⟩
  have d1 : c = c' := Decidable.of_not_not (of_decide_eq_false (p := c ≠ c') c1)
  conv => whnf
  refine br_intro (fun c2 => ?_) (fun c2 => ?_)
  · conv => whnf
    have d2 := of_decide_eq_true (p := s ≠ s') c2
    rw [decide_eq_false (show ¬(((c, s, fl, l) : Hd) = (c', s', fl', l')) by simp [d2])]
    exact ⟨.im _, rfl⟩
  have d2 : s = s' := Decidable.of_not_not (of_decide_eq_false (p := s ≠ s') c2)
  conv => whnf
  refine br_intro (fun c3 => ?_) (fun c3 => ?_)
  · conv => whnf
    have d3 := of_decide_eq_true (p := fl ≠ fl') c3
    rw [decide_eq_false (show ¬(((c, s, fl, l) : Hd) = (c', s', fl', l')) by simp [d3])]
    exact ⟨.im _, rfl⟩
  have d3 : fl = fl' := Decidable.of_not_not (of_decide_eq_false (p := fl ≠ fl') c3)
  conv => whnf
  have hdec : decide (((c, s, fl, l) : Hd) = (c', s', fl', l')) = decide (l = l') := by simp [d1, d2, d3]
  rw [hdec]
  rw [hvl, hvl']
  by_cases hlen : l.length = l'.length
  rotate_left
  · refine br_t (show decide (((l.length : Nat) : Int) ≠ ((l'.length : Nat) : Int)) = true from decide_eq_true (by omega)) ?_
    conv => whnf
    rw [decide_eq_false (fun h => hlen (by rw [h]))]
    exact ⟨.im _, rfl⟩
  refine br_f (show decide (((l.length : Nat) : Int) ≠ ((l'.length : Nat) : Int)) = false from decide_eq_false (by omega)) ?_
  conv => whnf
  intro hw
  refine wpc_loop2 (fun n1 s1 => ∃ j : Nat, j ≤ l.length ∧ n1 = l.length - j ∧ s1 = hsS (c, s, fl, l) (c', s', fl', l') j ∧ l.take j = l'.take j) l.length (hsS (c, s, fl, l) (c', s', fl', l') 0) ?_ ⟨0, by omega, rfl, rfl, rfl⟩ ?_ ?_
  · exact weak2 hw rfl ⟨.ptr 0 0 (of_decide_eq_true rfl), .ptr 1 0 (of_decide_eq_true rfl), .im _, trivial⟩ (.cons (.free (hdcells_free' _)) (.cons (.free (hdcells_free' _)) (.nil _))) (fun id hid => by cases hid) rfl (fun id hid => by cases hid)
  · rintro n1 s1 ⟨j, _, _, rfl, _⟩
    exact ⟨⟨Nat.le_refl 52, fun x hx => by cases hx⟩, rfl, Nat.le_refl _, rfl⟩
  · rintro n1 s1 ⟨j, hj, rfl, rfl, hinv⟩
    by_cases hjl : j < l.length
    · have hd0 : (true && true && decide ((0 : Int) ≤ (j : Int))) = true := by simp
      have hg1 : (vals l)[Int.toNat (j : Int)]? = some (vcells l[j]) := vals_get (List.getElem?_eq_getElem hjl)
      have hg2 : (vals l')[Int.toNat (j : Int)]? = some (vcells (l'[j]'(by omega))) := vals_get (List.getElem?_eq_getElem (by omega))
      have hwj : IntKind.i64.wrap ((j : Int) + 1) = ((j + 1 : Nat) : Int) := by rw [wrap_i64 (by omega) (by omega)]; rfl
      have ht1 : l.take (j + 1) = l.take j ++ [l[j]] := by rw [List.take_succ_eq_append_getElem hjl]
      have ht2 : l'.take (j + 1) = l'.take j ++ [l'[j]'(by omega)] := by rw [List.take_succ_eq_append_getElem (by omega)]
      conv => whnf
      refine br_t (decide_eq_true (by rw [hvl]; omega)) ?_
      conv => whnf
      intro hw2
      refine wpc_draw2 11 (by rfl) (by decide) (by decide) hw2 ?_
      conv => whnf
      refine grd_intro hd0 (optK_intro hg1 ?_)
      conv => whnf
      refine grd_intro hd0 (optK_intro hg2 ?_)
      conv => whnf
      refine EqT.neq eqT32 flat32 (eq32 _ _) ?_
      conv => whnf
      refine br_intro (fun hne => ?_) (fun heq => ?_)
      · have hne' : (!(decide (l[j] = l'[j]'(by omega)))) = true := hne
        have hdiff : decide (l = l') = false := by
          simp only [decide_eq_false_iff_not]
          intro h
          subst h
          simp at hne'
        conv => whnf
        refine ⟨.im _, ?_⟩
        rw [hdiff]
        rfl
      · have heq' : (!(decide (l[j] = l'[j]'(by omega)))) = false := heq
        have hsame : l[j] = l'[j]'(by omega) := by simpa using heq'
        conv => whnf
        intro hw3
        refine ⟨l.length - (j + 1), hsS (c, s, fl, l) (c', s', fl', l') (j + 1), by omega, ?_, j + 1, by omega, rfl, rfl, ?_⟩
        · exact weak2 hw3 rfl ⟨.ptr 0 0 (of_decide_eq_true rfl), .ptr 1 0 (of_decide_eq_true rfl), .int hwj, trivial⟩ (.cons (.free (hdcells_free' _)) (.cons (.free (hdcells_free' _)) (.nil _))) (fun id hid => by cases hid) rfl (fun id hid => by cases hid)
        · rw [ht1, ht2, hinv, hsame]
    · have hje : j = l.length := by omega
      have hsame : decide (l = l') = true := by
        rw [hje, List.take_length, hlen, List.take_length] at hinv
        simp [hinv]
      conv => whnf
      refine br_f (decide_eq_false (by rw [hvl]; omega)) ?_
      conv => whnf
      refine ⟨.im _, ?_⟩
      rw [hsame]
      rfl
def cmEq (a b : Cm) : Bool := decide (a.1 = b.1) && decide (a.2.1 = b.2.1) && decide (a.2.2 = b.2.2)
theorem rcsame_ct (G : Nat → Option (List V)) (a b : Cm) (ha : CmS a) (hl : a.1.2.2.length ≤ maxLen) (H : Heap) : Call2 Go.Proofs.Tryz.prog G 13 [.agg (ccells a), .agg (ccells b)] H fun r H' => H' = H ∧ r = .bool (cmEq a b) := by
  refine Call2.free (fun x hx => by
    simp only [List.mem_cons, List.not_mem_nil, or_false] at hx
    rcases hx with rfl | rfl
    · exact .agg _ (ccells_free' _)
    · exact .agg _ (ccells_free' _)) ?_ H
  have h1 := rsame_ct G a.1 b.1 hl
  have h2 := rhsame_ct G a.2.1 b.2.1 ha.2.2.1
  obtain ⟨m, h, s⟩ := a
  obtain ⟨m', h', s'⟩ := b
  have hdec : cmEq (m, h, s) (m', h', s') = (decide (m = m') && decide (h = h') && decide (s = s')) := rfl
  rw [hdec]
  generalize decide (m = m') = bm at h1 ⊢
  generalize decide (h = h') = bh at h2 ⊢
  refine stCall2 Go.Proofs.Tryz.func13 rfl (by decide) ?_
  conv => whnf
  refine Call2.mono (h1 _) fun r0 H0 h => ?_
  obtain ⟨h1, h2⟩ := h
  rw [h1, h2]
  clear h1 h2 r0 H0
  conv => whnf
  refine Call2.mono (h2 _) fun r0 H0 h => ?_
  obtain ⟨h1, h2⟩ := h
  rw [h1, h2]
  clear h1 h2 r0 H0
  conv => whnf
  cases bm
  · conv => whnf
    exact ⟨.im _, rfl⟩
  cases bh
  · conv => whnf
    exact ⟨.im _, rfl⟩
  conv => whnf
  exact ⟨.im _, rfl⟩

end Go.Abs.Sig

/-! LB1 -/
namespace Go.Abs.Sig
open Go.RowKit Go.Abs
set_option linter.unusedSimpArgs false
set_option linter.unusedVariables false
set_option maxRecDepth 8000
attribute [local irreducible] StCall StYield WPc Weak IterOf Lp2

/-! a lease that goes on -/
def wkC (l : LeaseL) (c : Cm) (out : V) (e : Int) : List V := leaseC l ++ ccells c ++ [out, .int .i64 e]
def wkB (l : LeaseL) (c : Cm) (out : V) (e : Int) : Option Blk := some (.cells 72 (wkC l c out e))

theorem text_ct (G : Nat → Option (List V)) (H : Heap) (k : Nat) (l : LeaseL) (c : Cm) (out : V) (e : Int) (hk : H[k]? = some (wkB l c out e)) (i : Int) :
    Call2 Go.Proofs.Tryz.prog G 85 [.ptr k 0, .int .i64 i] H fun r H' => H' = H ∧ r = .str (argOf c.1 i).2 := by
  have ha := arg_ct G c.1 i
  generalize argOf c.1 i = a at ha ⊢
  refine stCall2 Go.Proofs.Tryz.func85 rfl (by decide) ?_
  conv => whnf
  rw [hk]
  conv => whnf
  refine Call2.mono (ha _) fun r0 H0 h => ?_
  obtain ⟨h1, h2⟩ := h
  rw [h1, h2]
  clear h1 h2 r0 H0
  conv => whnf
  exact ⟨rfl, rfl⟩

theorem num_ct (G : Nat → Option (List V)) (H : Heap) (k : Nat) (l : LeaseL) (c : Cm) (out : V) (e : Int) (hk : H[k]? = some (wkB l c out e)) (i : Int) :
    Call2 Go.Proofs.Tryz.prog G 86 [.ptr k 0, .int .i64 i] H fun r H' => H' = H ∧ r = .int .u64 (argOf c.1 i).1 := by
  have ha := arg_ct G c.1 i
  generalize argOf c.1 i = a at ha ⊢
  refine stCall2 Go.Proofs.Tryz.func86 rfl (by decide) ?_
  conv => whnf
  rw [hk]
  conv => whnf
  refine Call2.mono (ha _) fun r0 H0 h => ?_
  obtain ⟨h1, h2⟩ := h
  rw [h1, h2]
  clear h1 h2 r0 H0
  conv => whnf
  exact ⟨rfl, rfl⟩

theorem wkB_bw (n : Nat) (l : LeaseL) (c : Cm) (out : V) (e : Int) (ho : VW n out out) : BW n (wkB l c out e) (wkB l c out e) := by
  refine .cells _ _ _ (VWs.self fun i v hi => ?_)
  have hv := List.mem_of_getElem? hi
  simp only [wkC, List.mem_append, List.mem_cons, List.not_mem_nil, or_false] at hv
  rcases hv with (hv | hv) | rfl | rfl
  · exact .free (leaseC_free' _ v hv)
  · exact .free (ccells_free' _ v hv)
  · exact ho
  · exact .im _

theorem cut_wk {H X : Heap} {k : Nat} {b : Option Blk} (hk : k < H.length) (hb : BW H.length b b) : Cut H.length H ((H ++ X).set k b) (H.set k b) := by
  refine ⟨X, by rw [List.set_append_left _ _ hk], by simp, fun id b' h => ?_⟩
  rw [List.getElem?_set] at h
  by_cases hi : k = id
  · subst hi
    simp [hk] at h
    subst h
    exact .inr hb
  · simp [hi] at h
    exact .inl h
theorem lt_of_get {H : Heap} {k : Nat} {b : Option Blk} (h : H[k]? = some b) : k < H.length := (List.getElem?_eq_some_iff.1 h).1
theorem get_app {H X : Heap} {k : Nat} {b : Option Blk} (h : H[k]? = some b) : (H ++ X)[k]? = some b := by
  rw [List.getElem?_append_left (lt_of_get h)]; exact h

def withC (c : Cm) (i : Int) (v : Val') : Cm := (withOf c.1 i v, c.2)
theorem wwith_ct (G : Nat → Option (List V)) (H : Heap) (k : Nat) (l : LeaseL) (c : Cm) (out : V) (e : Int) (ho : ∀ n, VW n out out) (hk : H[k]? = some (wkB l c out e)) (i : Int) (v : Val') (hb : c.1.2.2.length * 24 ≤ maxBytes) :
    Call2 Go.Proofs.Tryz.prog G 87 [.ptr k 0, .int .i64 i, .agg (vcells v)] H fun r H' => H' = H.set k (wkB l (withC c i v) out e) ∧ r = .tup [] := by
  have ha := with_ct G c.1 i v hb
  refine Call2.cut ?_
  refine stCall2 Go.Proofs.Tryz.func87 rfl (by decide) ?_
  have hk2 : (H ++ [some (.cells 50 (List.map V.strip (vcells v)))])[k]? = some (wkB l c out e) := get_app hk
  have hk3 : (H ++ [some (.cells 50 (List.map V.strip (vcells v)))])[H.length]? = some (some (.cells 50 (List.map V.strip (vcells v)))) := by simp
  unfold withC
  generalize withOf c.1 i v = m at ha ⊢
  conv => whnf
  intro hw
  refine wpc_draw2 12 (by rfl) (by decide) (by decide) hw ?_
  conv => whnf
  rw [hk2]
  conv => whnf
  rw [hk3]
  conv => whnf
  refine ⟨_, fun _ _ => ha _, ?_⟩
  conv => whnf
  rw [hk2]
  conv => whnf
  exact ⟨H.set k (wkB l (m, c.2) out e), cut_wk (lt_of_get hk) (b := wkB l (m, c.2) out e) (wkB_bw H.length l (m, c.2) out e (ho _)), .free (.tup _ (by simp)), rfl, rfl⟩
end Go.Abs.Sig

/-! LB2 -/
namespace Go.Abs.Sig
open Go.RowKit Go.Abs
set_option linter.unusedSimpArgs false
set_option linter.unusedVariables false
set_option maxRecDepth 8000
attribute [local irreducible] StCall StYield WPc Weak IterOf Lp2

/-- The same, with the slices as they are laid. -/
def wkV (l : LeaseL) (vt vs vn vg : V) (c : Cm) (out : V) (e : Int) : List V :=
  [.int .i64 l.who, .int .u64 l.t.nx, .int .u64 l.t.la, vt, .bool l.s.on, .int .u64 l.s.nx, .int .u64 l.s.off, vs, .int .i64 l.n.who, .int .u64 l.n.made, vn, .bool l.tx, vg, .int .i64 l.most] ++ ccells c ++ [out, .int .i64 e]
theorem VWs.app {n : Nat} {a a' b b' : List V} (h : VWs n a a') (h' : VWs n b b') : VWs n (a ++ b) (a' ++ b') := by
  induction h with
  | nil => exact h'
  | cons h _ ih => exact .cons h ih
theorem wkV_bw {n : Nat} {l : LeaseL} {vt vs vn vg : V} {c : Cm} {out out' : V} {e : Int} (h1 : VW n vt (.dat 2 (tagR l.t.l) .no)) (h2 : VW n vs (.dat 1 (numR l.s.l) .no)) (h3 : VW n vn (.dat 3 (nmR l.n.l) .no))
    (h4 : VW n vg (.dat 1 (boolR l.gets) .no)) (h5 : VW n out out') : BW n (some (.cells 72 (wkV l vt vs vn vg c out e))) (wkB l c out' e) := by
  refine .cells _ _ _ ?_
  refine VWs.app (VWs.app ?_ (VWs.self fun i v hi => .free (ccells_free' _ v (List.mem_of_getElem? hi)))) (.cons h5 (.cons (.im _) .nil))
  exact .cons (.im _) (.cons (.im _) (.cons (.im _) (.cons h1 (.cons (.im _) (.cons (.im _) (.cons (.im _) (.cons h2 (.cons (.im _) (.cons (.im _) (.cons h3 (.cons (.im _) (.cons h4 (.cons (.im _) .nil)))))))))))))

/-- Recover: no delivery is open. -/
def wRecover (l : LeaseL) : LeaseL := { l with t := { l.t with l := [] } }
theorem wrecover_ct (G : Nat → Option (List V)) (H : Heap) (k : Nat) (l : LeaseL) (c : Cm) (out : V) (e : Int) (ho : ∀ n, VW n out out) (hk : H[k]? = some (wkB l c out e)) :
    Call2 Go.Proofs.Tryz.prog G 57 [.ptr k 0] H fun r H' => H' = H.set k (wkB (wRecover l) c out e) ∧ r = .tup [] := by
  have hkl := lt_of_get hk
  refine Call2.cutW ?_
  refine stCall2 Go.Proofs.Tryz.func57 rfl (by decide) ?_
  conv => whnf
  rw [hk]
  conv => whnf
  refine ⟨.tup [], _, CutW.at hkl (x := some (.cells 72 (wkV (wRecover l) (.dat 0 [] .tight) (.dat 1 (numR l.s.l) .no) (.dat 3 (nmR l.n.l) .no) (.dat 1 (boolR l.gets) .no) c out e))) ?_ (fun id h1 h2 => ?_)
    (wkV_bw (.nil _ _ _ _ (.inl rfl)) (.dat _ _ _) (.dat _ _ _) (.dat _ _ _) (ho _)), .free (.tup _ (by simp)), rfl, rfl⟩
  · rw [List.getElem?_set_self hkl]; rfl
  · rw [List.getElem?_set_ne (fun h => h1 h.symm)]

/-- Begin a transaction. -/
def wBegin (l : LeaseL) (e : Int) : LeaseL × Int := if l.s.on then (l, 13) else ({ l with tx := true }, e)
theorem wbegin_ct (G : Nat → Option (List V)) (H : Heap) (k : Nat) (l : LeaseL) (c : Cm) (out : V) (e : Int) (ho : ∀ n, VW n out out) (hk : H[k]? = some (wkB l c out e)) :
    Call2 Go.Proofs.Tryz.prog G 59 [.ptr k 0] H fun r H' => H' = H.set k (wkB (wBegin l e).1 c out (wBegin l e).2) ∧ r = .tup [] := by
  obtain ⟨who, t, ⟨on, snx, off, sl⟩, n, tx, gets, most⟩ := l
  refine stCall2 Go.Proofs.Tryz.func59 rfl (by decide) ?_
  conv => whnf
  rw [hk]
  conv => whnf
  cases on
  · conv => whnf
    rw [hk]
    conv => whnf
    exact ⟨rfl, rfl⟩
  · conv => whnf
    rw [hk]
    conv => whnf
    exact ⟨rfl, rfl⟩
def wEnd (l : LeaseL) (e : Int) : Int := if l.tx then e else 13
theorem wend_ct (G : Nat → Option (List V)) (H : Heap) (k : Nat) (l : LeaseL) (c : Cm) (out : V) (e : Int) (ho : ∀ n, VW n out out) (hk : H[k]? = some (wkB l c out e)) :
    Call2 Go.Proofs.Tryz.prog G 60 [.ptr k 0] H fun r H' => H' = H.set k (wkB l c out (wEnd l e)) ∧ r = .tup [] := by
  obtain ⟨who, t, s, n, tx, gets, most⟩ := l
  have hs : H.set k (wkB ⟨who, t, s, n, tx, gets, most⟩ c out e) = H := by
    obtain ⟨h1, h2⟩ := List.getElem?_eq_some_iff.1 hk
    rw [← h2, List.set_getElem_self]
  refine stCall2 Go.Proofs.Tryz.func60 rfl (by decide) ?_
  conv => whnf
  rw [hk]
  conv => whnf
  cases tx
  · conv => whnf
    rw [hk]
    conv => whnf
    exact ⟨rfl, rfl⟩
  · conv => whnf
    exact ⟨hs.symm, rfl⟩
end Go.Abs.Sig

/-! LB3 -/
namespace Go.Abs.Sig
open Go.RowKit Go.Abs
set_option linter.unusedSimpArgs false
set_option linter.unusedVariables false
set_option maxRecDepth 8000
attribute [local irreducible] StCall StYield WPc Weak IterOf Lp2

theorem VW.tupL {n : Nat} {a a' : List V} (h : VWs n a a') : VW n (.tup a) (.tup a') := .tup _ _ h.get.1 h.get.2
theorem VW.aggL {n : Nat} {a a' : List V} (h : VWs n a a') : VW n (.agg a) (.agg a') := .agg _ _ h.get.1 h.get.2
def seqV (s : SeqL) (v : V) : List V := [.bool s.on, .int .u64 s.nx, .int .u64 s.off, v]
theorem seqV_vw {n : Nat} {s : SeqL} {v : V} (h : VW n v (.dat 1 (numR s.l) .no)) : VWs n (seqV s v) (seqC s) := .cons (.im _) (.cons (.im _) (.cons (.im _) (.cons h .nil)))
def tagsV (s : TagsL) (v : V) : List V := [.int .u64 s.nx, .int .u64 s.la, v]
theorem tagsV_vw {n : Nat} {s : TagsL} {v : V} (h : VW n v (.dat 2 (tagR s.l) .no)) : VWs n (tagsV s v) (tagsC s) := .cons (.im _) (.cons (.im _) (.cons h .nil))
/-! sequence numbers -/
def selL (s : SeqL) (off : Int) : SeqL × Int := if s.on then (s, 0) else if off = 18446744073709551615 then (s, 1) else (⟨true, 1, off, []⟩, 0)
theorem select_ct (G : Nat → Option (List V)) (s : SeqL) (off : Int) (H : Heap) : Call2 Go.Proofs.Tryz.prog G 92 [.agg (seqC s), .int .u64 off] H fun r H' => H' = H ∧ r = .tup [.agg (seqC (selL s off).1), .int .i64 (selL s off).2] := by
  refine Call2.free (fun x hx => by
    simp only [List.mem_cons, List.not_mem_nil, or_false] at hx
    rcases hx with rfl | rfl
    · exact .agg _ (seqC_free' _)
    · exact .im _) ?_ H
  have fr : ∀ s' (e : Int), (V.tup [.agg (seqC s'), .int .i64 e]).Free := fun s' e => .tup _ (by
    intro v hv
    simp only [List.mem_cons, List.not_mem_nil, or_false] at hv
    rcases hv with rfl | rfl
    · exact .agg _ (seqC_free' _)
    · exact .im _)
  refine Call2.weakR ?_
  obtain ⟨on, nx, off', l⟩ := s
  refine stCall2 Go.Proofs.Tryz.func92 rfl (by decide) ?_
  conv => whnf
  cases on
  · conv => whnf
    by_cases h : off = 18446744073709551615
    · refine br_t (decide_eq_true h) ?_
      conv => whnf
      have e1 : selL ⟨false, nx, off', l⟩ off = (⟨false, nx, off', l⟩, 1) := by unfold selL; rw [if_neg (by simp), if_pos h]
      rw [e1]
      exact ⟨_, .free (fr _ _), fr _ _, rfl⟩
    · refine br_f (decide_eq_false h) ?_
      conv => whnf
      have e1 : selL ⟨false, nx, off', l⟩ off = (⟨true, 1, off, []⟩, 0) := by unfold selL; rw [if_neg (by simp), if_neg h]
      rw [e1]
      refine ⟨_, ?_, fr ⟨true, 1, off, []⟩ 0, rfl⟩
      exact VW.tupL (.cons (VW.aggL (seqV_vw (s := ⟨true, 1, off, []⟩) (v := .dat 0 [] .tight) (.nil _ _ _ _ (.inl rfl)))) (.cons (.im _) .nil))
  · conv => whnf
    exact ⟨_, .free (fr _ _), fr ⟨true, nx, off', l⟩ 0, rfl⟩

def wConfirm (l : LeaseL) : LeaseL × Int := if l.tx then (l, 13) else ({ l with s := (selL l.s 0).1 }, (selL l.s 0).2)
theorem set_get {H : Heap} {k : Nat} {b : Option Blk} (h : k < H.length) : (H.set k b)[k]? = some b := List.getElem?_set_self h
theorem wconfirm_ct (G : Nat → Option (List V)) (H : Heap) (k : Nat) (l : LeaseL) (c : Cm) (out : V) (e : Int) (hk : H[k]? = some (wkB l c out e)) :
    Call2 Go.Proofs.Tryz.prog G 58 [.ptr k 0] H fun r H' => H' = H.set k (wkB (wConfirm l).1 c out (wConfirm l).2) ∧ r = .tup [] := by
  have hs := select_ct G l.s 0
  have hkl := lt_of_get hk
  unfold wConfirm
  generalize selL l.s 0 = u at hs ⊢
  obtain ⟨us, ue⟩ := u
  obtain ⟨who, t, s, n, tx, gets, most⟩ := l
  refine stCall2 Go.Proofs.Tryz.func58 rfl (by decide) ?_
  conv => whnf
  rw [hk]
  conv => whnf
  cases tx
  · conv => whnf
    rw [hk]
    conv => whnf
    refine Call2.mono (hs _) fun r0 H0 h => ?_
    obtain ⟨h1, h2⟩ := h
    rw [h1, h2]
    clear h1 h2 r0 H0
    conv => whnf
    rw [hk]
    conv => whnf
    rw [set_get hkl]
    conv => whnf
    refine ⟨?_, rfl⟩
    rw [List.set_set]
    rfl
  · conv => whnf
    rw [hk]
    conv => whnf
    exact ⟨rfl, rfl⟩

end Go.Abs.Sig

/-! LB4 -/
namespace Go.Abs.Sig
open Go.RowKit Go.Abs
set_option linter.unusedSimpArgs false
set_option linter.unusedVariables false
set_option maxRecDepth 8000
attribute [local irreducible] StCall StYield WPc Weak IterOf Lp2

def pubL (s : SeqL) (most : Int) : SeqL × Int × Int :=
  if s.on = false then (s, 0, 0)
  else if IntKind.u64.wrap (s.nx + s.off) = 18446744073709551615 then (s, 0, 15)
  else if most ≤ (s.l.length : Int) then (s, 0, 12)
  else ({ s with nx := IntKind.u64.wrap (s.nx + 1), l := s.l ++ [s.nx] }, s.nx, 0)

theorem numR_app (l : List Int) (x : Int) : numR (l ++ [x]) = numR l ++ [[.int .u64 x]] := by simp [numR]
theorem full_slice (rows : List (List V)) : List.drop (Int.toNat 0) (List.take (Int.toNat (rows.length : Int)) rows) = rows := by simp
theorem publish_ct (G : Nat → Option (List V)) (s : SeqL) (most : Int) (hl : (s.l.length + 1) * 8 ≤ maxBytes) (H : Heap) :
    Call2 Go.Proofs.Tryz.prog G 90 [.agg (seqC s), .int .i64 most] H fun r H' => H' = H ∧ r = .tup [.agg (seqC (pubL s most).1), .int .u64 (pubL s most).2.1, .int .i64 (pubL s most).2.2] := by
  refine Call2.free (fun x hx => by
    simp only [List.mem_cons, List.not_mem_nil, or_false] at hx
    rcases hx with rfl | rfl
    · exact .agg _ (seqC_free' _)
    · exact .im _) ?_ H
  have fr : ∀ s' (n e : Int), (V.tup [.agg (seqC s'), .int .u64 n, .int .i64 e]).Free := fun s' n e => .tup _ (by
    intro v hv
    simp only [List.mem_cons, List.not_mem_nil, or_false] at hv
    rcases hv with rfl | rfl | rfl
    · exact .agg _ (seqC_free' _)
    · exact .im _
    · exact .im _)
  refine Call2.weakR ?_
  obtain ⟨on, nx, off, l⟩ := s
  have hvl : (numR l).length = l.length := by simp [numR]
  refine stCall2 Go.Proofs.Tryz.func90 rfl (by decide) ?_
  conv => whnf
  cases on
  · conv => whnf
    exact ⟨_, .free (fr _ _ _), fr ⟨false, nx, off, l⟩ 0 0, rfl⟩
  conv => whnf
  by_cases h1 : IntKind.u64.wrap (nx + off) = 18446744073709551615
  · refine br_t (decide_eq_true h1) ?_
    have e1 : pubL ⟨true, nx, off, l⟩ most = (⟨true, nx, off, l⟩, 0, 15) := by unfold pubL; rw [if_neg (by simp), if_pos h1]
    rw [e1]
    conv => whnf
    exact ⟨_, .free (fr _ _ _), fr ⟨true, nx, off, l⟩ 0 15, rfl⟩
  refine br_f (decide_eq_false h1) ?_
  conv => whnf
  rw [hvl]
  by_cases h2 : most ≤ (l.length : Int)
  · refine br_t (decide_eq_true h2) ?_
    have e1 : pubL ⟨true, nx, off, l⟩ most = (⟨true, nx, off, l⟩, 0, 12) := by unfold pubL; rw [if_neg (by simp), if_neg h1, if_pos h2]
    rw [e1]
    conv => whnf
    exact ⟨_, .free (fr _ _ _), fr ⟨true, nx, off, l⟩ 0 12, rfl⟩
  refine br_f (decide_eq_false h2) ?_
  have e1 : pubL ⟨true, nx, off, l⟩ most = (⟨true, IntKind.u64.wrap (nx + 1), off, l ++ [nx]⟩, nx, 0) := by unfold pubL; rw [if_neg (by simp), if_neg h1, if_neg h2]
  rw [e1]
  conv => whnf
  refine ⟨⟨.inr rfl, Int.le_refl _, Int.natCast_nonneg _, rfl, Int.le_refl _⟩, ?_⟩
  conv => whnf
  rw [full_slice]
  refine ⟨?_, .inr rfl, ?_, ?_, ?_, ?_⟩
  · exact .inr rfl
  · intro r hr
    obtain rfl := List.mem_singleton.1 hr
    rfl
  · show ((numR l).length + 1) * 8 ≤ maxBytes
    rw [hvl]; exact hl
  · show (numR l).length + 1 ≤ maxBytes
    rw [hvl]
    have : (l.length + 1) * 8 ≤ maxBytes := hl
    omega
  conv => whnf
  refine ⟨_, ?_, fr ⟨true, IntKind.u64.wrap (nx + 1), off, l ++ [nx]⟩ nx 0, rfl⟩
  have hv : ∀ n, VW n (.dat 1 (numR l ++ [[.int .u64 nx]]) .no) (.dat 1 (numR (l ++ [nx])) .no) := fun n => by rw [numR_app]; exact .no _ _ _
  have hv2 : ∀ n, VW n (.tup [.agg (seqV ⟨true, IntKind.u64.wrap (nx + 1), off, l ++ [nx]⟩ (.dat 1 (numR l ++ [[.int .u64 nx]]) .no)), .int .u64 nx, .int .i64 0]) (.tup [.agg (seqC ⟨true, IntKind.u64.wrap (nx + 1), off, l ++ [nx]⟩), .int .u64 nx, .int .i64 0]) :=
    fun n => VW.tupL (.cons (VW.aggL (seqV_vw (hv n))) (.cons (.im _) (.cons (.im _) .nil)))
  exact hv2 _
theorem dqOkL_of {lay : Bool} {all : List Oper} {H H' : Heap} (h : H.all noClsB = true) (h' : H'.all noClsB = true) : dqOkL lay all H H' = true := by
  unfold dqOkL dqOk
  cases lay
  · cases all.any isVCall
    · rfl
    · simp [h, h']
  · rfl
theorem all_set {H : Heap} {k : Nat} {b : Option Blk} (h : H.all noClsB = true) (hb : noClsB b = true) : (H.set k b).all noClsB = true := by
  rw [List.all_eq_true] at h ⊢
  intro x hx
  rcases List.mem_or_eq_of_mem_set hx with hx | rfl
  · exact h x hx
  · exact hb
theorem all_app {H H' : Heap} (h : H.all noClsB = true) (h' : H'.all noClsB = true) : (H ++ H').all noClsB = true := by rw [List.all_append, h, h']; rfl
def wPublish (l : LeaseL) : LeaseL × Int := ({ l with s := (pubL l.s l.most).1 }, (pubL l.s l.most).2.2)
theorem wpublish_ct (G : Nat → Option (List V)) (H : Heap) (hH : H.all noClsB = true) (k : Nat) (l : LeaseL) (c : Cm) (e : Int) (hk : H[k]? = some (wkB l c (.dat 0 [] .tight) e)) (hl : (l.s.l.length + 1) * 8 ≤ maxBytes) :
    Call2 Go.Proofs.Tryz.prog G 53 [.ptr k 0] H fun r H' => H' = H.set k (wkB (wPublish l).1 c (.dat 0 [] .tight) (wPublish l).2) ∧ r = .tup [] := by
  have hs := publish_ct G l.s l.most hl
  have hkl := lt_of_get hk
  unfold wPublish
  generalize pubL l.s l.most = u at hs ⊢
  obtain ⟨us, un, ue⟩ := u
  obtain ⟨who, t, s, n, tx, gets, most⟩ := l
  refine stCall2 Go.Proofs.Tryz.func53 rfl (by decide) ?_
  conv => whnf
  intro hw
  refine wpc_drawG2 [20, 23] [] [] (by rfl) (by kernel_rfl) (by kernel_rfl) hw ?_
  conv => whnf
  rw [hk]
  conv => whnf
  rw [hk]
  conv => whnf
  refine ⟨_, fun _ _ => hs _, ?_⟩
  conv => whnf
  rw [hk]
  conv => whnf
  refine grd_intro (dqOkL_of hH (all_set hH rfl)) ?_
  conv => whnf
  rw [set_get hkl]
  conv => whnf
  refine grd_intro (dqOkL_of (all_set hH rfl) (all_set (all_set hH rfl) rfl)) ?_
  conv => whnf
  refine ⟨?_, rfl⟩
  rw [List.set_set]
  rfl

end Go.Abs.Sig

/-! LB5 -/
namespace Go.Abs.Sig
open Go.RowKit Go.Abs
set_option linter.unusedSimpArgs false
set_option linter.unusedVariables false
set_option maxRecDepth 8000
attribute [local irreducible] StCall StYield WPc Weak IterOf Lp2

def wGet (l : LeaseL) (n : Int) (e : Int) : LeaseL × Int := if l.most ≤ (l.gets.length : Int) then (l, 12) else ({ l with gets := l.gets ++ [decide (n ≠ 0)] }, e)
theorem dq_no {all : List Oper} {H : Heap} (h : H.all noClsB = true) : dq all H = fun _ => false := by
  unfold dq
  cases all.any isVCall
  · rfl
  · exact noCls_heap h
theorem demote_dq {all : List Oper} {H : Heap} {v : V} (h : H.all noClsB = true) : V.demote (dq all H) v = v := by rw [dq_no h]; exact demote_false v
theorem wget_ct (G : Nat → Option (List V)) (H : Heap) (hH : H.all noClsB = true) (k : Nat) (l : LeaseL) (c : Cm) (e : Int) (hk : H[k]? = some (wkB l c (.dat 0 [] .tight) e)) (hl : l.gets.length + 1 ≤ maxBytes) :
    Call2 Go.Proofs.Tryz.prog G 54 [.ptr k 0] H fun r H' => H' = H.set k (wkB (wGet l (argOf c.1 2).1 e).1 c (.dat 0 [] .tight) (wGet l (argOf c.1 2).1 e).2) ∧ r = .tup [] := by
  have hkl := lt_of_get hk
  have hn := fun X => num_ct G (H ++ X) k l c _ e (get_app hk) 2
  unfold wGet
  generalize (argOf c.1 2).1 = n at hn ⊢
  obtain ⟨who, t, s, nn, tx, gets, most⟩ := l
  have hvl : (boolR gets).length = gets.length := by simp [boolR]
  have hl' : gets.length + 1 ≤ maxBytes := hl
  refine Call2.cutW ?_
  refine stCall2 Go.Proofs.Tryz.func54 rfl (by decide) ?_
  conv => whnf
  intro hw
  refine wpc_draw2 12 (by rfl) (by decide) (by decide) hw ?_
  conv => whnf
  rw [hk]
  conv => whnf
  rw [hk]
  conv => whnf
  rw [hvl]
  by_cases h1 : most ≤ (gets.length : Int)
  · refine br_t (decide_eq_true h1) ?_
    rw [if_pos h1]
    conv => whnf
    rw [hk]
    conv => whnf
    refine ⟨.tup [], _, CutW.at hkl (x := wkB ⟨who, t, s, nn, tx, gets, most⟩ c (.dat 0 [] .tight) 12) ?_ (fun id h1 h2 => ?_) (wkB_bw _ _ _ _ _ (.dat _ _ _)), .free (.tup _ (by simp)), rfl, rfl⟩
    · rw [List.getElem?_set_self hkl]; rfl
    · rw [List.getElem?_set_ne (fun h => h1 h.symm)]
  refine br_f (decide_eq_false h1) ?_
  rw [if_neg h1]
  conv => whnf
  intro hw2
  refine wpc_draw2 27 (by rfl) (by decide) (by decide) hw2 ?_
  conv => whnf
  rw [hk]
  conv => whnf
  rw [hk]
  conv => whnf
  rw [hk]
  conv => whnf
  refine ⟨⟨.inr rfl, Int.le_refl _, Int.natCast_nonneg _, rfl, Int.le_refl _⟩, ?_⟩
  conv => whnf
  refine ⟨_, fun X _ => hn X, ?_⟩
  conv => whnf
  rw [full_slice]
  conv => whnf
  refine ⟨.inr rfl, .inr rfl, ?_, ?_, ?_, ?_⟩
  · intro r hr
    obtain rfl := List.mem_singleton.1 hr
    rfl
  · show ((boolR gets).length + 1) * 1 ≤ maxBytes
    rw [hvl]; omega
  · show (boolR gets).length + 1 ≤ maxBytes
    rw [hvl]; exact hl'
  conv => whnf
  simp only [demote_dq hH]
  conv => whnf
  rw [hk]
  conv => whnf
  have hg2 : boolR (gets ++ [decide (n ≠ 0)]) = boolR gets ++ [[.bool (decide (n ≠ 0))]] := by simp [boolR]
  have hvw : VW H.length (.dat 1 (boolR gets ++ [[.bool (decide (n ≠ 0))]]) (.cls 40)) (.dat 1 (boolR (gets ++ [decide (n ≠ 0)])) .no) := by rw [hg2]; exact .no _ _ _
  refine ⟨.tup [], _, CutW.at hkl (x := some (.cells 72 (wkV ⟨who, t, s, nn, tx, gets ++ [decide (n ≠ 0)], most⟩ (.dat 2 (tagR t.l) .no) (.dat 1 (numR s.l) .no) (.dat 3 (nmR nn.l) .no)
    (.dat 1 (boolR gets ++ [[.bool (decide (n ≠ 0))]]) (.cls 40)) c (.dat 0 [] .tight) e))) ?_ (fun id h1 h2 => ?_) (wkV_bw (.dat _ _ _) (.dat _ _ _) (.dat _ _ _) hvw (.dat _ _ _)), .free (.tup _ (by simp)), rfl, rfl⟩
  · rw [List.getElem?_set_self hkl]; rfl
  · rw [List.getElem?_set_ne (fun h => h1 h.symm)]
end Go.Abs.Sig

/-! LB6 -/
namespace Go.Abs.Sig
open Go.RowKit Go.Abs
set_option linter.unusedSimpArgs false
set_option linter.unusedVariables false
set_option maxRecDepth 8000
attribute [local irreducible] StCall StYield WPc Weak IterOf Lp2

def sideN (c i : Int) : Int := (rowAt c i).2.2.2.1
theorem side_ct (G : Nat → Option (List V)) (c i : Int) (H : Heap) : Call2 Go.Proofs.Tryz.prog G 50 [.int .i64 c, .int .i64 i] H fun r H' => H' = H ∧ r = .int .i64 (sideN c i) := by
  refine Call2.free (int_free (vs := [c, i])) ?_ H
  have ha := at_ct G c i
  unfold sideN
  refine stCall2 Go.Proofs.Tryz.func50 rfl (by decide) ?_
  conv => whnf
  refine Call2.mono (ha _) fun r0 H0 h => ?_
  obtain ⟨h1, h2⟩ := h
  rw [h1, h2]
  clear h1 h2 r0 H0
  conv => whnf
  exact ⟨.im _, rfl⟩

def sideHas (s b : Int) : Bool := decide (s = b) || decide (s = 3)
theorem side_vals : (tab.all fun r => decide (r.2.2.2.1 = 1) || decide (r.2.2.2.1 = 2) || decide (r.2.2.2.1 = 3)) = true := by kernel_rfl
theorem sideN_vals (c i : Int) : sideN c i = 0 ∨ sideN c i = 1 ∨ sideN c i = 2 ∨ sideN c i = 3 := by
  unfold sideN rowAt
  cases h : tab.find? (pAt c i) with
  | none => exact .inl rfl
  | some r =>
    have := List.all_eq_true.1 side_vals r (List.mem_of_find?_eq_some h)
    simp only [Bool.or_eq_true, decide_eq_true_eq] at this
    rcases this with (h | h) | h
    · exact .inr (.inl h)
    · exact .inr (.inr (.inl h))
    · exact .inr (.inr (.inr h))

def mayL (m : Met) (b : Int) : Bool := decide (m.1 ≠ 10) && decide (m.1 ≠ 20) && sideHas (sideN m.1 m.2.1) b
theorem may_ct (G : Nat → Option (List V)) (m : Met) (b : Int) (hb : b = 1 ∨ b = 2) (H : Heap) : Call2 Go.Proofs.Tryz.prog G 24 [.agg (mcells m), .int .i64 b] H fun r H' => H' = H ∧ r = .bool (mayL m b) := by
  refine Call2.free (fun x hx => by
    simp only [List.mem_cons, List.not_mem_nil, or_false] at hx
    rcases hx with rfl | rfl
    · exact mcells_free _
    · exact .im _) ?_ H
  obtain ⟨c, i, l⟩ := m
  have hs := side_ct G c i
  have hv := sideN_vals c i
  have hm : mayL (c, i, l) b = (decide (c ≠ 10) && decide (c ≠ 20) && sideHas (sideN c i) b) := rfl
  rw [hm]
  generalize sideN c i = s at hs hv ⊢
  refine stCall2 Go.Proofs.Tryz.func24 rfl (by decide) ?_
  conv => whnf
  refine br_intro (fun c1 => ?_) (fun c1 => ?_)
  rotate_left
  · conv => whnf
    rw [show decide (c ≠ 10) = false from c1]
    exact ⟨.im _, rfl⟩
  rw [show decide (c ≠ 10) = true from c1]
  conv => whnf
  refine br_intro (fun c2 => ?_) (fun c2 => ?_)
  rotate_left
  · conv => whnf
    rw [show decide (c ≠ 20) = false from c2]
    exact ⟨.im _, rfl⟩
  rw [show decide (c ≠ 20) = true from c2]
  conv => whnf
  refine Call2.mono (hs _) fun r0 H0 h => ?_
  obtain ⟨h1, h2⟩ := h
  rw [h1, h2]
  clear h1 h2 r0 H0
  conv => whnf
  rcases hb with rfl | rfl
  · rcases hv with rfl | rfl | rfl | rfl
    · exact ⟨.im _, rfl⟩
    · exact ⟨.im _, rfl⟩
    · exact ⟨.im _, rfl⟩
    · exact ⟨.im _, rfl⟩
  · rcases hv with rfl | rfl | rfl | rfl
    · exact ⟨.im _, rfl⟩
    · exact ⟨.im _, rfl⟩
    · exact ⟨.im _, rfl⟩
    · exact ⟨.im _, rfl⟩

theorem tagsNew_ct (G : Nat → Option (List V)) (H : Heap) : Call2 Go.Proofs.Tryz.prog G 29 [] H fun r H' => H' = H ∧ r = .agg (tagsC ⟨1, 0, []⟩) := by
  refine Call2.free (fun x hx => by cases hx) ?_ H
  refine Call2.weakR ?_
  refine stCall2 Go.Proofs.Tryz.func29 rfl (by decide) ?_
  conv => whnf
  exact ⟨_, VW.aggL (tagsV_vw (s := ⟨1, 0, []⟩) (v := .dat 0 [] .tight) (.nil _ _ _ _ (.inl rfl))), .agg _ (tagsC_free' _), rfl⟩

def lease0 : LeaseL := ⟨0, ⟨0, 0, []⟩, ⟨false, 0, 0, []⟩, ⟨0, 0, []⟩, false, [], 0⟩
def newL (who most : Int) : LeaseL × Int := if who < 1 then (lease0, 1) else if most < 1 then (lease0, 1) else if 1000 < most then (lease0, 1) else (⟨who, ⟨1, 0, []⟩, ⟨false, 0, 0, []⟩, ⟨who, 0, []⟩, false, [], most⟩, 0)
def leaseV (l : LeaseL) (vt vs vn vg : V) : List V :=
  [.int .i64 l.who, .int .u64 l.t.nx, .int .u64 l.t.la, vt, .bool l.s.on, .int .u64 l.s.nx, .int .u64 l.s.off, vs, .int .i64 l.n.who, .int .u64 l.n.made, vn, .bool l.tx, vg, .int .i64 l.most]
theorem leaseV_vw {n : Nat} {l : LeaseL} {vt vs vn vg : V} (h1 : VW n vt (.dat 2 (tagR l.t.l) .no)) (h2 : VW n vs (.dat 1 (numR l.s.l) .no)) (h3 : VW n vn (.dat 3 (nmR l.n.l) .no)) (h4 : VW n vg (.dat 1 (boolR l.gets) .no)) :
    VWs n (leaseV l vt vs vn vg) (leaseC l) :=
  .cons (.im _) (.cons (.im _) (.cons (.im _) (.cons h1 (.cons (.im _) (.cons (.im _) (.cons (.im _) (.cons h2 (.cons (.im _) (.cons (.im _) (.cons h3 (.cons (.im _) (.cons h4 (.cons (.im _) .nil)))))))))))))
theorem vw_nil {n es : Nat} {fl : Fl} : VW n (.dat 0 [] .tight) (.dat es [] fl) := .nil _ _ _ _ (.inl rfl)
theorem new_ct (G : Nat → Option (List V)) (who most : Int) (H : Heap) : Call2 Go.Proofs.Tryz.prog G 14 [.int .i64 who, .int .i64 most] H fun r H' => H' = H ∧ r = .tup [.agg (leaseC (newL who most).1), .int .i64 (newL who most).2] := by
  refine Call2.free (int_free (vs := [who, most])) ?_ H
  have fr : ∀ s' (e : Int), (V.tup [.agg (leaseC s'), .int .i64 e]).Free := fun s' e => .tup _ (by
    intro v hv
    simp only [List.mem_cons, List.not_mem_nil, or_false] at hv
    rcases hv with rfl | rfl
    · exact .agg _ (leaseC_free' _)
    · exact .im _)
  refine Call2.weakR ?_
  have z : ∀ n, VW n (.tup [.agg (leaseV lease0 (.dat 0 [] .tight) (.dat 0 [] .tight) (.dat 0 [] .tight) (.dat 0 [] .tight)), .int .i64 1]) (.tup [.agg (leaseC lease0), .int .i64 1]) :=
    fun n => VW.tupL (.cons (VW.aggL (leaseV_vw vw_nil vw_nil vw_nil vw_nil)) (.cons (.im _) .nil))
  unfold newL
  by_cases h1 : who < 1
  · rw [if_pos h1]
    refine stCall2 Go.Proofs.Tryz.func14 rfl (by decide) ?_
    conv => whnf
    refine br_t (decide_eq_true h1) ?_
    conv => whnf
    exact ⟨_, z _, fr _ _, rfl⟩
  rw [if_neg h1]
  by_cases h2 : most < 1
  · rw [if_pos h2]
    refine stCall2 Go.Proofs.Tryz.func14 rfl (by decide) ?_
    conv => whnf
    refine br_f (decide_eq_false h1) ?_
    conv => whnf
    refine br_t (show decide (most < 1) = true from decide_eq_true h2) ?_
    conv => whnf
    exact ⟨_, z _, fr _ _, rfl⟩
  rw [if_neg h2]
  by_cases h3 : 1000 < most
  · rw [if_pos h3]
    refine stCall2 Go.Proofs.Tryz.func14 rfl (by decide) ?_
    conv => whnf
    refine br_f (decide_eq_false h1) ?_
    conv => whnf
    refine br_f (show decide (most < 1) = false from decide_eq_false h2) ?_
    conv => whnf
    refine br_t (show decide (1000 < most) = true from decide_eq_true h3) ?_
    conv => whnf
    exact ⟨_, z _, fr _ _, rfl⟩
  rw [if_neg h3]
  have ht := tagsNew_ct G
  refine stCall2 Go.Proofs.Tryz.func14 rfl (by decide) ?_
  conv => whnf
  refine br_f (decide_eq_false h1) ?_
  conv => whnf
  refine br_f (show decide (most < 1) = false from decide_eq_false h2) ?_
  conv => whnf
  refine br_f (show decide (1000 < most) = false from decide_eq_false h3) ?_
  conv => whnf
  refine Call2.mono (ht _) fun r0 H0 h => ?_
  obtain ⟨h1, h2⟩ := h
  rw [h1, h2]
  clear h1 h2 r0 H0
  conv => whnf
  have z2 : ∀ n, VW n (.tup [.agg (leaseV ⟨who, ⟨1, 0, []⟩, ⟨false, 0, 0, []⟩, ⟨who, 0, []⟩, false, [], most⟩ (.dat 2 [] .no) (.dat 0 [] .tight) (.dat 0 [] .tight) (.dat 0 [] .tight)), .int .i64 0])
      (.tup [.agg (leaseC ⟨who, ⟨1, 0, []⟩, ⟨false, 0, 0, []⟩, ⟨who, 0, []⟩, false, [], most⟩), .int .i64 0]) :=
    fun n => VW.tupL (.cons (VW.aggL (leaseV_vw (.dat _ _ _) vw_nil vw_nil vw_nil)) (.cons (.im _) .nil))
  exact ⟨_, z2 _, fr _ _, rfl⟩
end Go.Abs.Sig

/-! LB7 -/
namespace Go.Abs.Sig
open Go.RowKit Go.Abs
set_option linter.unusedSimpArgs false
set_option linter.unusedVariables false
set_option maxRecDepth 8000
attribute [local irreducible] StCall StYield WPc Weak IterOf Lp2

/-! names: the first of which something is so -/
def idxI (o : Option Nat) : Int := match o with
  | some i => (i : Int)
  | none => -1
def nmIxS (l : List Nm) (g : Nat) (caps : List V) (j : Nat) (H : Heap) : S2 := headS 19 ([.dat 3 (nmR l) .no, .fn (.func g) [] caps, .bad, .bad, .bad, .bad, .bad, .int .i64 (l.length : Int), .int .i64 (j : Int)] ++ List.replicate 10 .bad) H [] none
theorem findIdx_at {α : Type} (p : α → Bool) : ∀ (l : List α) (j : Nat) (hj : j < l.length), (∀ x ∈ l.take j, p x = false) → p l[j] = true → l.findIdx? p = some j
  | [], j, hj, _, _ => by simp at hj
  | x :: l, 0, hj, _, h => by simp at h; simp [List.findIdx?_cons, h]
  | x :: l, j + 1, hj, h1, h2 => by
    have hx : p x = false := h1 x (by simp)
    have := findIdx_at p l j (by simpa using hj) (fun y hy => h1 y (by simp [hy])) (by simpa using h2)
    simp [List.findIdx?_cons, hx, this]
theorem findIdx_no {α : Type} (p : α → Bool) (l : List α) (h : ∀ x ∈ l, p x = false) : l.findIdx? p = none := by
  rw [List.findIdx?_eq_none_iff]
  exact h
theorem nmIndex_ct (G : Nat → Option (List V)) (l : List Nm) (hl : l.length ≤ maxLen) (g : FuncId) (caps : List V) (p : Nm → Bool) (H : Heap) (hcaps : ∀ v ∈ caps, VW H.length v v ∧ v.strip = v)
    (hg : ∀ x ∈ l, Call2 Go.Proofs.Tryz.prog G g ([.agg (nmcells x)] ++ caps) H fun v H' => H' = H ∧ v = .bool (p x)) :
    Call2 Go.Proofs.Tryz.prog G 146 [.dat 3 (nmR l) .no, .fn (.func g) [] caps] H fun v H' => H' = H ∧ v = .int .i64 (idxI (l.findIdx? p)) := by
  refine Call2.inScope ⟨_, Go.Proofs.Tryz.func146, rfl, by decide⟩ fun hs => ?_
  have hl' : l.length ≤ 9223372036854775807 := hl
  have hvl : (nmR l).length = l.length := by simp [nmR]
  have hst : caps.map V.strip = caps := by
    conv => rhs; rw [← List.map_id caps]
    exact List.map_congr_left fun v hv => (hcaps v hv).2
  have hfn : VW H.length (.fn (.func g) [] caps) (.fn (.func g) [] caps) := .fn _ _ _ (fun i v h => by simp at h) (fun i v h => (hcaps v (List.mem_of_getElem? h)).1)
  refine stCall2 Go.Proofs.Tryz.func146 rfl (by decide) ?_
  conv => whnf
  rw [hvl]
  intro hw
  refine wpc_loop2 (fun n1 s1 => ∃ j : Nat, j ≤ l.length ∧ n1 = l.length - j ∧ s1 = nmIxS l g caps j H ∧ ∀ x ∈ l.take j, p x = false) l.length (nmIxS l g caps 0 H) ?_ ⟨0, by omega, rfl, rfl, by simp⟩ ?_ ?_
  · exact weak2 hw rfl ⟨.dat _ _ _, hfn, .im _, .im _, trivial⟩ hs.bws (fun id hid => by cases hid) rfl (fun id hid => by cases hid)
  · rintro n1 s1 ⟨j, _, _, rfl, _⟩
    exact ⟨⟨Nat.le_refl 19, fun x hx => by cases hx⟩, rfl, Nat.le_refl _, rfl⟩
  rintro n1 s1 ⟨j, hj, rfl, rfl, hinv⟩
  by_cases hjl : j < l.length
  · have hd0 : (true && true && decide ((0 : Int) ≤ (j : Int))) = true := by simp
    have hwj : IntKind.i64.wrap ((j : Int) + 1) = ((j + 1 : Nat) : Int) := by rw [wrap_i64 (by omega) (by omega)]; rfl
    have hg1 : (nmR l)[Int.toNat (j : Int)]? = some (nmcells l[j]) := rowGet _ l j hjl
    have hc := hg l[j] (List.getElem_mem hjl)
    have ht : ∀ x ∈ l.take (j + 1), x ∈ l.take j ∨ x = l[j] := fun x hx => by
      rw [List.take_succ_eq_append_getElem hjl] at hx
      exact (List.mem_append.1 hx).imp id List.mem_singleton.1
    have hfa := findIdx_at p l j hjl hinv
    have hpj : p l[j] = p l[j] := rfl
    generalize hb : p l[j] = b at hc hfa hpj
    conv => whnf
    refine br_t (decide_eq_true (by omega)) ?_
    conv => whnf
    refine grd_intro hd0 (optK_intro hg1 ?_)
    conv => whnf
    have hc' : Call2 Go.Proofs.Tryz.prog G g (List.map V.strip ([] ++ [.agg (nmcells l[j])] ++ caps)) H fun v H' => H' = H ∧ v = .bool b := by
      rw [List.map_append, hst]; exact hc
    refine Call2.mono hc' fun r0 H0 h => ?_
    obtain ⟨h1, h2⟩ := h
    rw [h1, h2]
    clear h1 h2 r0 H0
    conv => whnf
    cases b
    · conv => whnf
      intro hw2
      refine ⟨l.length - (j + 1), nmIxS l g caps (j + 1) H, by omega, ?_, j + 1, by omega, rfl, rfl, fun x hx => ?_⟩
      · exact weak2 hw2 rfl ⟨.dat _ _ _, hfn, .im _, .int hwj, trivial⟩ hs.bws (fun id hid => by cases hid) rfl (fun id hid => by cases hid)
      · rcases ht x hx with h | rfl
        · exact hinv x h
        · exact hb
    · conv => whnf
      refine ⟨rfl, ?_⟩
      rw [hfa rfl]
      rfl
  · conv => whnf
    refine br_f (decide_eq_false (by omega)) ?_
    conv => whnf
    refine ⟨rfl, ?_⟩
    rw [findIdx_no p l (by rw [← List.take_of_length_le (show l.length ≤ j by omega)]; exact hinv)]
    rfl
end Go.Abs.Sig

/-! LB8 -/
namespace Go.Abs.Sig
open Go.RowKit Go.Abs
set_option linter.unusedSimpArgs false
set_option linter.unusedVariables false
set_option maxRecDepth 8000
attribute [local irreducible] StCall StYield WPc Weak IterOf Lp2

def nm0 : Nm := ([], [], false)
def nmFind (p : Nm → Bool) (l : List Nm) : Nm × Bool := match l.find? p with
  | some x => (x, true)
  | none => (nm0, false)
theorem findIdx_find {α : Type} (p : α → Bool) : ∀ (l : List α), match l.findIdx? p with
    | some i => ∃ h : i < l.length, l.find? p = some l[i]
    | none => l.find? p = none
  | [] => rfl
  | x :: l => by
    have ih := findIdx_find p l
    rw [List.findIdx?_cons]
    by_cases hx : p x = true
    · rw [if_pos hx]
      exact ⟨by simp, by simp [hx]⟩
    · rw [if_neg hx]
      cases h : l.findIdx? p with
      | none => rw [h] at ih; simp [hx, ih]
      | some i =>
        rw [h] at ih
        obtain ⟨h1, h2⟩ := ih
        exact ⟨by simpa using h1, by simp [hx, h2]⟩
theorem nmcells_free' (x : Nm) : ∀ v ∈ nmcells x, v.Free := by
  intro v hv
  simp only [nmcells, List.mem_cons, List.not_mem_nil, or_false] at hv
  rcases hv with rfl | rfl | rfl
  · exact .str _
  · exact .str _
  · exact .im _
theorem nmfind_free (x : Nm × Bool) : (V.tup [.agg (nmcells x.1), .bool x.2]).Free := .tup _ (by
  intro v hv
  simp only [List.mem_cons, List.not_mem_nil, or_false] at hv
  rcases hv with rfl | rfl
  · exact .agg _ (nmcells_free' _)
  · exact .im _)
theorem nmfind_ct (G : Nat → Option (List V)) (n : NamesL) (hl : n.l.length ≤ maxLen) (g : FuncId) (caps : List V) (p : Nm → Bool) (H : Heap) (hcls : ∀ c, heapCls H c = false) (hcaps : ∀ v ∈ caps, VW H.length v v ∧ v.strip = v)
    (hsc : ∀ x ∈ n.l, ∀ v ∈ [V.agg (nmcells x)] ++ caps, VW H.length v v ∧ v.strip = v)
    (hg : ∀ x ∈ n.l, Call2 Go.Proofs.Tryz.prog G g ([.agg (nmcells x)] ++ caps) H fun v H' => H' = H ∧ v = .bool (p x)) :
    Call2 Go.Proofs.Tryz.prog G 122 [.agg (namesC n), .fn (.func g) [] caps] H fun v H' => H' = H ∧ v = .tup [.agg (nmcells (nmFind p n.l).1), .bool (nmFind p n.l).2] := by
  refine Call2.inScope ⟨_, Go.Proofs.Tryz.func122, rfl, by decide⟩ fun hs => ?_
  obtain ⟨who, made, l⟩ := n
  have hix := nmIndex_ct G l hl g caps p (H ++ [some (.cells 31 (namesC ⟨who, made, l⟩)), some (.cells 85 (nmcells nm0))]) (fun v hv => ⟨(hcaps v hv).1.mono (by simp), (hcaps v hv).2⟩)
    (fun x hx => Call2.frame' (hg x hx) _ hs (hsc x hx) (fun c hc => by cases hc))
  have hff := findIdx_find p l
  unfold nmFind
  generalize l.findIdx? p = o at hix hff
  have hst : caps.map V.strip = caps := by
    conv => rhs; rw [← List.map_id caps]
    exact List.map_congr_left fun v hv => (hcaps v hv).2
  refine Call2.cut ?_
  refine stCall2 Go.Proofs.Tryz.func122 rfl (by decide) ?_
  conv => whnf
  try simp only [List.append_assoc, List.cons_append, List.nil_append, List.length_append, List.length_cons, List.length_nil, Nat.zero_add, Nat.add_assoc, Nat.reduceAdd, ga0, ga1, ga2, ga3, ga4, ga5, sa0, sa1, sa2, sa3, sa4, sa5, S2.setH_H, List.all_cons, List.all_nil, isDefd, nodupB, List.any_nil, Bool.and_true, Bool.not_false, List.foldl_cons, List.foldl_nil]
  conv => whnf
  refine Call2.mono (show Call2 Go.Proofs.Tryz.prog G 146 _ _ _ from hix) fun r0 H0 h => ?_
  obtain ⟨h1, h2⟩ := h
  rw [h1, h2]
  clear h1 h2 r0 H0
  conv => whnf
  cases o with
  | none =>
    have hff : l.find? p = none := hff
    rw [hff]
    iterate 3 (conv => whnf; try simp only [List.append_assoc, List.cons_append, List.nil_append, List.length_append, List.length_cons, List.length_nil, Nat.zero_add, Nat.add_assoc, Nat.reduceAdd, ga0, ga1, ga2, ga3, ga4, ga5, sa0, sa1, sa2, sa3, sa4, sa5, S2.setH_H, List.all_cons, List.all_nil, isDefd, nodupB, List.any_nil, Bool.and_true, Bool.not_false, List.foldl_cons, List.foldl_nil])
    exact ⟨H, Cut.app hs rfl, .free (nmfind_free (nm0, false)), rfl, rfl⟩
  | some i =>
    obtain ⟨hi, hff⟩ := hff
    rw [hff]
    rw [show decide (idxI (some i) < 0) = false from decide_eq_false (show ¬((i : Nat) : Int) < 0 by omega)]
    have hd0 : (true && true && decide ((0 : Int) ≤ (i : Int))) = true := by simp
    have hg1 : (nmR l)[Int.toNat (i : Int)]? = some (nmcells l[i]) := rowGet _ l i hi
    iterate 3 (conv => whnf; try simp only [List.append_assoc, List.cons_append, List.nil_append, List.length_append, List.length_cons, List.length_nil, Nat.zero_add, Nat.add_assoc, Nat.reduceAdd, ga0, ga1, ga2, ga3, ga4, ga5, sa0, sa1, sa2, sa3, sa4, sa5, S2.setH_H, List.all_cons, List.all_nil, isDefd, nodupB, List.any_nil, Bool.and_true, Bool.not_false, List.foldl_cons, List.foldl_nil])
    refine grd_intro hd0 (optK_intro hg1 ?_)
    iterate 3 (conv => whnf; try simp only [List.append_assoc, List.cons_append, List.nil_append, List.length_append, List.length_cons, List.length_nil, Nat.zero_add, Nat.add_assoc, Nat.reduceAdd, ga0, ga1, ga2, ga3, ga4, ga5, sa0, sa1, sa2, sa3, sa4, sa5, S2.setH_H, List.all_cons, List.all_nil, isDefd, nodupB, List.any_nil, Bool.and_true, Bool.not_false, List.foldl_cons, List.foldl_nil])
    exact ⟨H, Cut.app hs rfl, .free (nmfind_free (l[i], true)), rfl, rfl⟩
end Go.Abs.Sig

/-! LB9 -/
namespace Go.Abs.Sig
open Go.RowKit Go.Abs
set_option linter.unusedSimpArgs false
set_option linter.unusedVariables false
set_option maxRecDepth 8000
attribute [local irreducible] StCall StYield WPc Weak IterOf Lp2

theorem nm_sc {n k off : Nat} (hk : k < n) (x : Nm) : ∀ v ∈ [V.agg (nmcells x)] ++ [.ptr k off], VW n v v ∧ v.strip = v := by
  intro v hv
  simp only [List.cons_append, List.nil_append, List.mem_cons, List.not_mem_nil, or_false] at hv
  rcases hv with rfl | rfl
  · exact ⟨.free (.agg _ (nmcells_free' _)), rfl⟩
  · exact ⟨.ptr _ _ hk, rfl⟩
theorem ptr_sc {n k off : Nat} (hk : k < n) : ∀ v ∈ [V.ptr k off], VW n v v ∧ v.strip = v := by
  intro v hv
  obtain rfl := List.mem_singleton.1 hv
  exact ⟨.ptr _ _ hk, rfl⟩

theorem to1_ct (G : Nat → Option (List V)) (H : Heap) (k : Nat) (s : List UInt8) (hk : H[k]? = some (some (.cells 9 [.str s]))) (x : Nm) :
    Call2 Go.Proofs.Tryz.prog G 123 ([.agg (nmcells x)] ++ [.ptr k 0]) H fun v H' => H' = H ∧ v = .bool (decide (x.1 = s)) := by
  refine Call2.inScope ⟨_, Go.Proofs.Tryz.func123, rfl, by decide⟩ fun hs => ?_
  refine Call2.cut ?_
  have hk2 : (H ++ [some (.cells 85 (List.map V.strip (nmcells x)))])[k]? = some (some (.cells 9 [.str s])) := get_app hk
  refine stCall2 Go.Proofs.Tryz.func123 rfl (by decide) ?_
  iterate 2 (conv => whnf; try simp only [List.append_assoc, List.cons_append, List.nil_append, List.length_append, List.length_cons, List.length_nil, Nat.zero_add, Nat.add_assoc, Nat.reduceAdd, ga0, ga1, ga2, ga3, ga4, ga5, sa0, sa1, sa2, sa3, sa4, sa5, S2.setH_H, List.all_cons, List.all_nil, isDefd, nodupB, List.any_nil, Bool.and_true, Bool.not_false, List.foldl_cons, List.foldl_nil])
  rw [get_app hk]
  iterate 2 (conv => whnf; try simp only [List.append_assoc, List.cons_append, List.nil_append, List.length_append, List.length_cons, List.length_nil, Nat.zero_add, Nat.add_assoc, Nat.reduceAdd, ga0, ga1, ga2, ga3, ga4, ga5, sa0, sa1, sa2, sa3, sa4, sa5, S2.setH_H, List.all_cons, List.all_nil, isDefd, nodupB, List.any_nil, Bool.and_true, Bool.not_false, List.foldl_cons, List.foldl_nil])
  exact ⟨H, Cut.app hs rfl, .im _, rfl, rfl⟩
theorem from1_ct (G : Nat → Option (List V)) (H : Heap) (k : Nat) (s : List UInt8) (hk : H[k]? = some (some (.cells 9 [.str s]))) (x : Nm) :
    Call2 Go.Proofs.Tryz.prog G 150 ([.agg (nmcells x)] ++ [.ptr k 0]) H fun v H' => H' = H ∧ v = .bool (decide (x.2.1 = s)) := by
  refine Call2.inScope ⟨_, Go.Proofs.Tryz.func150, rfl, by decide⟩ fun hs => ?_
  refine Call2.cut ?_
  refine stCall2 Go.Proofs.Tryz.func150 rfl (by decide) ?_
  iterate 2 (conv => whnf; try simp only [List.append_assoc, List.cons_append, List.nil_append, List.length_append, List.length_cons, List.length_nil, Nat.zero_add, Nat.add_assoc, Nat.reduceAdd, ga0, ga1, ga2, ga3, ga4, ga5, sa0, sa1, sa2, sa3, sa4, sa5, S2.setH_H, List.all_cons, List.all_nil, isDefd, nodupB, List.any_nil, Bool.and_true, Bool.not_false, List.foldl_cons, List.foldl_nil])
  rw [get_app hk]
  iterate 2 (conv => whnf; try simp only [List.append_assoc, List.cons_append, List.nil_append, List.length_append, List.length_cons, List.length_nil, Nat.zero_add, Nat.add_assoc, Nat.reduceAdd, ga0, ga1, ga2, ga3, ga4, ga5, sa0, sa1, sa2, sa3, sa4, sa5, S2.setH_H, List.all_cons, List.all_nil, isDefd, nodupB, List.any_nil, Bool.and_true, Bool.not_false, List.foldl_cons, List.foldl_nil])
  exact ⟨H, Cut.app hs rfl, .im _, rfl, rfl⟩
theorem drop1_ct (G : Nat → Option (List V)) (H : Heap) (k : Nat) (s : List UInt8) (hk : H[k]? = some (some (.cells 9 [.str s]))) (x : Nm) :
    Call2 Go.Proofs.Tryz.prog G 126 ([.agg (nmcells x)] ++ [.ptr k 0]) H fun v H' => H' = H ∧ v = .bool (decide (x.1 = s)) := by
  refine Call2.inScope ⟨_, Go.Proofs.Tryz.func126, rfl, by decide⟩ fun hs => ?_
  refine Call2.cut ?_
  refine stCall2 Go.Proofs.Tryz.func126 rfl (by decide) ?_
  iterate 2 (conv => whnf; try simp only [List.append_assoc, List.cons_append, List.nil_append, List.length_append, List.length_cons, List.length_nil, Nat.zero_add, Nat.add_assoc, Nat.reduceAdd, ga0, ga1, ga2, ga3, ga4, ga5, sa0, sa1, sa2, sa3, sa4, sa5, S2.setH_H, List.all_cons, List.all_nil, isDefd, nodupB, List.any_nil, Bool.and_true, Bool.not_false, List.foldl_cons, List.foldl_nil])
  rw [get_app hk]
  iterate 2 (conv => whnf; try simp only [List.append_assoc, List.cons_append, List.nil_append, List.length_append, List.length_cons, List.length_nil, Nat.zero_add, Nat.add_assoc, Nat.reduceAdd, ga0, ga1, ga2, ga3, ga4, ga5, sa0, sa1, sa2, sa3, sa4, sa5, S2.setH_H, List.all_cons, List.all_nil, isDefd, nodupB, List.any_nil, Bool.and_true, Bool.not_false, List.foldl_cons, List.foldl_nil])
  exact ⟨H, Cut.app hs rfl, .im _, rfl, rfl⟩

def toL (l : List Nm) (s : List UInt8) : Nm × Bool := nmFind (fun x => decide (x.1 = s)) l
def fromL (l : List Nm) (s : List UInt8) : Nm × Bool := nmFind (fun x => decide (x.2.1 = s)) l
theorem to_ct (G : Nat → Option (List V)) (n : NamesL) (s : List UInt8) (hl : n.l.length ≤ maxLen) (H : Heap) :
    Call2 Go.Proofs.Tryz.prog G 88 [.agg (namesC n), .str s] H fun r H' => H' = H ∧ r = .tup [.agg (nmcells (toL n.l s).1), .bool (toL n.l s).2] := by
  refine Call2.free (fun x hx => by
    simp only [List.mem_cons, List.not_mem_nil, or_false] at hx
    rcases hx with rfl | rfl
    · exact .agg _ (namesC_free' _)
    · exact .str _) ?_ H
  have hf := nmfind_ct G n hl 123 [.ptr 1 0] (fun x => decide (x.1 = s)) [some (.cells 31 (namesC n)), some (.cells 9 [.str s]), some (.cells 85 (nmcells nm0))] (fun _ => rfl) (ptr_sc (Nat.le_of_ble_eq_true rfl))
    (fun x _ => nm_sc (Nat.le_of_ble_eq_true rfl) x) (fun x _ => to1_ct G _ 1 s rfl x)
  have e1 : nmFind (fun x => decide (x.1 = s)) n.l = toL n.l s := rfl
  rw [e1] at hf
  generalize toL n.l s = u at hf ⊢
  refine stCall2 Go.Proofs.Tryz.func88 rfl (by decide) ?_
  conv => whnf
  refine Call2.mono (hf) fun r0 H0 h => ?_
  obtain ⟨h1, h2⟩ := h
  rw [h1, h2]
  clear h1 h2 r0 H0
  conv => whnf
  exact ⟨nmfind_free u, rfl⟩
theorem from_ct (G : Nat → Option (List V)) (n : NamesL) (s : List UInt8) (hl : n.l.length ≤ maxLen) (H : Heap) :
    Call2 Go.Proofs.Tryz.prog G 128 [.agg (namesC n), .str s] H fun r H' => H' = H ∧ r = .tup [.agg (nmcells (fromL n.l s).1), .bool (fromL n.l s).2] := by
  refine Call2.free (fun x hx => by
    simp only [List.mem_cons, List.not_mem_nil, or_false] at hx
    rcases hx with rfl | rfl
    · exact .agg _ (namesC_free' _)
    · exact .str _) ?_ H
  have hf := nmfind_ct G n hl 150 [.ptr 1 0] (fun x => decide (x.2.1 = s)) [some (.cells 31 (namesC n)), some (.cells 9 [.str s]), some (.cells 85 (nmcells nm0))] (fun _ => rfl) (ptr_sc (Nat.le_of_ble_eq_true rfl))
    (fun x _ => nm_sc (Nat.le_of_ble_eq_true rfl) x) (fun x _ => from1_ct G _ 1 s rfl x)
  have e1 : nmFind (fun x => decide (x.2.1 = s)) n.l = fromL n.l s := rfl
  rw [e1] at hf
  generalize fromL n.l s = u at hf ⊢
  refine stCall2 Go.Proofs.Tryz.func128 rfl (by decide) ?_
  conv => whnf
  refine Call2.mono (hf) fun r0 H0 h => ?_
  obtain ⟨h1, h2⟩ := h
  rw [h1, h2]
  clear h1 h2 r0 H0
  conv => whnf
  exact ⟨nmfind_free u, rfl⟩
end Go.Abs.Sig

/-! LK2 -/
namespace Go.Abs.Sig
open Go.RowKit Go.Abs
set_option linter.unusedSimpArgs false
set_option linter.unusedVariables false
set_option maxRecDepth 8000
attribute [local irreducible] StCall StYield WPc Weak IterOf Lp2

theorem hsz85 : ((Go.Proofs.Tryz.prog).types[85]'(by decide)).size = 3 := rfl
theorem nmcells_len (x : Nm) : (nmcells x).length = 3 := rfl
/-- slices.Clone. -/
theorem nmclone_ct (G : Nat → Option (List V)) (l : List Nm) (hb : l.length * 40 ≤ maxBytes) (H : Heap) :
    Call2 Go.Proofs.Tryz.prog G 125 [.dat 3 (nmR l) .no] H fun r H' => (l = [] ∧ H' = H ∧ r = .dat 3 [] .no) ∨ (l ≠ [] ∧ H' = H ++ [some (.cells 85 (flR nmcells l))] ∧ r = .arr H.length 3 l.length) := by
  have hvl : (nmR l).length = l.length := by simp [nmR]
  cases l with
  | nil =>
    refine Call2.weakR ?_
    refine stCall2 Go.Proofs.Tryz.func125 rfl (by decide) ?_
    conv => whnf
    intro b hbn
    cases b
    · conv => whnf
      refine ⟨.inl rfl, .inl rfl, (fun r hr => by cases hr), Nat.zero_le _, Nat.zero_le _, .inl ?_⟩
      conv => whnf
      exact ⟨_, .no _ _ _, .inl ⟨rfl, rfl, rfl⟩⟩
    · conv => whnf
      exact ⟨.dat 3 [] .no, .nil _ _ _ _ (.inl rfl), .inl ⟨rfl, rfl, rfl⟩⟩
  | cons x l =>
    have hne : nmR (x :: l) ≠ [] := fun h => by cases h
    refine (show Call2 Go.Proofs.Tryz.prog G 125 [.dat 3 (nmR (x :: l)) .no] H (fun r H' => H' = H ++ [some (.cells 85 (flR nmcells (x :: l)))] ∧ r = .arr H.length 3 (x :: l).length) from ?_).mono fun r H' h => .inr ⟨by simp, h⟩
    generalize x :: l = l at hb hvl hne
    refine stCall2 Go.Proofs.Tryz.func125 rfl (by decide) ?_
    conv => whnf
    intro b hbn
    have hb0 : b = false := by
      cases b with
      | false => rfl
      | true => exact absurd (hbn rfl) hne
    subst hb0
    conv => whnf
    refine ⟨.inl rfl, .inr rfl, ?_, ?_, ?_, .inr ⟨⟨rfl, hne, ?_⟩, ?_⟩⟩
    · intro r hr
      obtain ⟨v, _, rfl⟩ := List.mem_map.1 hr
      rfl
    · show (([] : List (List V)).length + (nmR l).length) * 40 ≤ maxBytes
      rw [hvl]
      simpa using hb
    · show ([] : List (List V)).length + (nmR l).length ≤ maxBytes
      rw [hvl]
      have : l.length * 40 ≤ maxBytes := hb
      simp
      omega
    · intro r hr v hv
      obtain ⟨x, _, rfl⟩ := List.mem_map.1 hr
      simp only [nmcells, List.mem_cons, List.not_mem_nil, or_false] at hv
      rcases hv with rfl | rfl | rfl <;> rfl
    conv => whnf
    refine ⟨rfl, ?_⟩
    show V.arr H.length 3 (nmR l).length = _
    rw [hvl]

theorem findIdx_first {α : Type} (p : α → Bool) : ∀ (l : List α), match l.findIdx? p with
    | some i => ∃ h : i < l.length, (∀ x ∈ l.take i, p x = false) ∧ p l[i] = true
    | none => ∀ x ∈ l, p x = false
  | [] => by simp
  | x :: l => by
    have ih := findIdx_first p l
    rw [List.findIdx?_cons]
    by_cases hx : p x = true
    · rw [if_pos hx]
      exact ⟨by simp, by simp, by simpa using hx⟩
    · rw [if_neg hx]
      have hx' : p x = false := by simpa using hx
      cases h : l.findIdx? p with
      | none =>
        rw [h] at ih
        intro y hy
        rcases List.mem_cons.1 hy with rfl | hy
        · exact hx'
        · exact ih y hy
      | some i =>
        rw [h] at ih
        obtain ⟨h1, h2, h3⟩ := ih
        refine ⟨by simpa using h1, fun y hy => ?_, by simpa using h3⟩
        rw [List.take_succ_cons] at hy
        rcases List.mem_cons.1 hy with rfl | hy
        · exact hx'
        · exact h2 y hy

/-- A predicate's contract over all heaps in which the blocks but k are as they are. -/
def PredAt (G : Nat → Option (List V)) (l : List Nm) (g : FuncId) (caps : List V) (p : Nm → Bool) (H : Heap) (k : Nat) : Prop :=
  ∀ x ∈ l, ∀ H1 : Heap, (∀ id, id < H.length → id ≠ k → H1[id]? = H[id]?) → Call2 Go.Proofs.Tryz.prog G g ([.agg (nmcells x)] ++ caps) H1 fun v H' => H' = H1 ∧ v = .bool (p x)
def nmIaS (k n : Nat) (g : FuncId) (caps : List V) (j : Nat) (H : Heap) : S2 := headS 19 ([.arr k 3 n, .fn (.func g) [] caps, .bad, .bad, .bad, .bad, .bad, .int .i64 (n : Int), .int .i64 (j : Int)] ++ List.replicate 10 .bad) H [] none
theorem flR_at {l : List Nm} {j : Nat} (hj : j < l.length) : (flR nmcells l).drop (j * 3) = .str l[j].1 :: .str l[j].2.1 :: .bool l[j].2.2 :: flR nmcells (l.drop (j + 1)) := by
  rw [flR_drop nmcells_len, drop_next hj]
  rfl
/-- slices.IndexFunc over rows of one's own. -/
theorem nmIndexA_ct (G : Nat → Option (List V)) (l : List Nm) (hl : l.length ≤ maxLen) (g : FuncId) (caps : List V) (p : Nm → Bool) (H : Heap) (k : Nat) (hk : H[k]? = some (some (.cells 85 (flR nmcells l)))) (hcaps : ∀ v ∈ caps, VW H.length v v ∧ v.strip = v)
    (hg : PredAt G l g caps p H k) :
    Call2 Go.Proofs.Tryz.prog G 146 [.arr k 3 l.length, .fn (.func g) [] caps] H fun v H' => H' = H ∧ v = .int .i64 (idxI (l.findIdx? p)) := by
  refine Call2.inScope ⟨_, Go.Proofs.Tryz.func146, rfl, by decide⟩ fun hs => ?_
  have hl' : l.length ≤ 9223372036854775807 := hl
  have hkl : k < H.length := (List.getElem?_eq_some_iff.1 hk).1
  have hst : caps.map V.strip = caps := by
    conv => rhs; rw [← List.map_id caps]
    exact List.map_congr_left fun v hv => (hcaps v hv).2
  have hfn : VW H.length (.fn (.func g) [] caps) (.fn (.func g) [] caps) := .fn _ _ _ (fun i v h => by simp at h) (fun i v h => (hcaps v (List.mem_of_getElem? h)).1)
  refine stCall2 Go.Proofs.Tryz.func146 rfl (by decide) ?_
  conv => whnf
  intro hw
  refine wpc_loop2 (fun n1 s1 => ∃ j : Nat, j ≤ l.length ∧ n1 = l.length - j ∧ s1 = nmIaS k l.length g caps j H ∧ ∀ x ∈ l.take j, p x = false) l.length (nmIaS k l.length g caps 0 H) ?_ ⟨0, by omega, rfl, rfl, by simp⟩ ?_ ?_
  · exact weak2 hw rfl ⟨.arr _ _ _ hkl, hfn, .im _, .im _, trivial⟩ hs.bws (fun id hid => by cases hid) rfl (fun id hid => by cases hid)
  · rintro n1 s1 ⟨j, _, _, rfl, _⟩
    exact ⟨⟨Nat.le_refl 19, fun x hx => by cases hx⟩, rfl, Nat.le_refl _, rfl⟩
  rintro n1 s1 ⟨j, hj, rfl, rfl, hinv⟩
  by_cases hjl : j < l.length
  · have hwj : IntKind.i64.wrap ((j : Int) + 1) = ((j + 1 : Nat) : Int) := by rw [wrap_i64 (by omega) (by omega)]; rfl
    have hg1 := flR_at hjl
    have hc := hg l[j] (List.getElem_mem hjl) H (fun _ _ _ => rfl)
    have ht : ∀ x ∈ l.take (j + 1), x ∈ l.take j ∨ x = l[j] := fun x hx => by
      rw [List.take_succ_eq_append_getElem hjl] at hx
      exact (List.mem_append.1 hx).imp id List.mem_singleton.1
    have hfa := findIdx_at p l j hjl hinv
    generalize hb : p l[j] = b at hc hfa
    generalize hx : l[j] = x at hc hg1
    conv => whnf
    refine br_t (decide_eq_true (by omega)) ?_
    conv => whnf
    refine grd_intro (by
      show (true && decide ((0 : Int) ≤ (j : Int)) && decide ((j : Int) < (l.length : Int))) = true
      simp; omega) ?_
    conv => whnf
    rw [hk]
    conv => whnf
    rw [Int.toNat_natCast, hsz85, hg1]
    conv => whnf
    have hc' : Call2 Go.Proofs.Tryz.prog G g (List.map V.strip ([] ++ [.agg (nmcells x)] ++ caps)) H fun v H' => H' = H ∧ v = .bool b := by
      rw [List.map_append, hst]; exact hc
    refine Call2.mono hc' fun r0 H0 h => ?_
    obtain ⟨h1, h2⟩ := h
    rw [h1, h2]
    clear h1 h2 r0 H0
    conv => whnf
    cases b
    · conv => whnf
      intro hw2
      refine ⟨l.length - (j + 1), nmIaS k l.length g caps (j + 1) H, by omega, ?_, j + 1, by omega, rfl, rfl, fun y hy => ?_⟩
      · exact weak2 hw2 rfl ⟨.arr _ _ _ hkl, hfn, .im _, .int hwj, trivial⟩ hs.bws (fun id hid => by cases hid) rfl (fun id hid => by cases hid)
      · rcases ht y hy with h | rfl
        · exact hinv y h
        · exact hb
    · conv => whnf
      refine ⟨rfl, ?_⟩
      rw [hfa rfl]
      rfl
  · conv => whnf
    refine br_f (decide_eq_false (by omega)) ?_
    conv => whnf
    refine ⟨rfl, ?_⟩
    rw [findIdx_no p l (by rw [← List.take_of_length_le (show l.length ≤ j by omega)]; exact hinv)]
    rfl
end Go.Abs.Sig

/-! LK3 -/
namespace Go.Abs.Sig
open Go.RowKit Go.Abs
set_option linter.unusedSimpArgs false
set_option linter.unusedVariables false
set_option maxRecDepth 8000
attribute [local irreducible] StCall StYield WPc Weak IterOf Lp2

def dlS (k n : Nat) (g : FuncId) (caps : List V) (i j : Nat) (H : Heap) : S2 := headS 42 ([.arr k 3 n, .fn (.func g) [] caps, .bad, .bad, .bad, .int .i64 (i : Int), .int .i64 (j : Int)] ++ List.replicate 35 .bad) H [] none
theorem set_self {H : Heap} {k : Nat} {b : Option Blk} (h : H[k]? = some b) : H.set k b = H := by
  obtain ⟨h1, h2⟩ := List.getElem?_eq_some_iff.1 h
  rw [← h2, List.set_getElem_self]
theorem bws_set {H H2 : Heap} {k : Nat} {t : TypeId} {vs : List V} (hs : Scoped H) (hv : ∀ v ∈ vs, v.Free) (h : ∀ id, id < H.length → H2[id]? = (H.set k (some (.cells t vs)))[id]?) : BWs H.length H2 (H.set k (some (.cells t vs))) := by
  refine BWs.of fun id y hy => ?_
  have hid : id < H.length := by have := (List.getElem?_eq_some_iff.1 hy).1; simpa using this
  refine ⟨y, by rw [h id hid]; exact hy, ?_⟩
  cases y with
  | none => exact .drop _
  | some b =>
    have := set_scoped (k := k) (t := t) hs hv id b hy
    rwa [List.length_set] at this
theorem flR_free (l : List Nm) : ∀ v ∈ flR nmcells l, v.Free := by
  intro v hv
  obtain ⟨r, hr, hv⟩ := List.mem_flatten.1 hv
  obtain ⟨x, _, rfl⟩ := List.mem_map.1 hr
  exact nmcells_free' x v hv
theorem flR_dc (l : List Nm) : ∀ v ∈ flR nmcells l, v.dataCell = true := by
  intro v hv
  obtain ⟨r, hr, hv⟩ := List.mem_flatten.1 hv
  obtain ⟨x, _, rfl⟩ := List.mem_map.1 hr
  simp only [nmcells, List.mem_cons, List.not_mem_nil, or_false] at hv
  rcases hv with rfl | rfl | rfl <;> rfl
theorem nmcells_dc (x : Nm) : ∀ v ∈ nmcells x, v.dataCell = true := by
  intro v hv
  simp only [nmcells, List.mem_cons, List.not_mem_nil, or_false] at hv
  rcases hv with rfl | rfl | rfl <;> rfl

/-- slices.DeleteFunc over rows of one's own: those that stay are moved up. -/
theorem nmdel_ct (G : Nat → Option (List V)) (l : List Nm) (hl : l.length ≤ maxLen) (g : FuncId) (caps : List V) (p : Nm → Bool) (H : Heap) (k : Nat) (hk : H[k]? = some (some (.cells 85 (flR nmcells l)))) (hcaps : ∀ v ∈ caps, VW H.length v v ∧ v.strip = v)
    (hg : PredAt G l g caps p H k) :
    Call2 Go.Proofs.Tryz.prog G 124 [.arr k 3 l.length, .fn (.func g) [] caps] H fun v H' => ∃ vs, H' = H.set k (some (.cells 85 vs)) ∧ v = .arr k 3 (l.filter fun x => !p x).length ∧
      vs.take ((l.filter fun x => !p x).length * 3) = flR nmcells (l.filter fun x => !p x) ∧ vs.length = l.length * 3 ∧ ∀ v ∈ vs, v.dataCell = true := by
  refine Call2.inScope ⟨_, Go.Proofs.Tryz.func124, rfl, by decide⟩ fun hs => ?_
  have hl' : l.length ≤ 9223372036854775807 := hl
  have hkl : k < H.length := (List.getElem?_eq_some_iff.1 hk).1
  have hst : caps.map V.strip = caps := by
    conv => rhs; rw [← List.map_id caps]
    exact List.map_congr_left fun v hv => (hcaps v hv).2
  have hfn : VW H.length (.fn (.func g) [] caps) (.fn (.func g) [] caps) := .fn _ _ _ (fun i v h => by simp at h) (fun i v h => (hcaps v (List.mem_of_getElem? h)).1)
  have hix := nmIndexA_ct G l hl g caps p H k hk hcaps hg
  have hff := findIdx_first p l
  generalize l.findIdx? p = o at hix hff
  refine stCall2 Go.Proofs.Tryz.func124 rfl (by decide) ?_
  conv => whnf
  refine Call2.mono (show Call2 Go.Proofs.Tryz.prog G 146 _ _ _ from (by
    have h1 : List.map V.strip ([] ++ [.arr k 3 l.length, .fn (.func g) [] caps]) = [.arr k 3 l.length, .fn (.func g) [] caps] := rfl
    exact hix)) fun r0 H0 h => ?_
  obtain ⟨h1, h2⟩ := h
  rw [h1, h2]
  clear h1 h2 r0 H0
  conv => whnf
  cases o with
  | none =>
    have hf : (l.filter fun x => !p x) = l := List.filter_eq_self.2 fun x hx => by simp [hff x hx]
    rw [hf]
    refine ⟨flR nmcells l, (set_self hk).symm, rfl, ?_, flR_len nmcells_len l, flR_dc l⟩
    rw [List.take_of_length_le (by rw [flR_len nmcells_len]; exact Nat.le_refl _)]
  | some i0 =>
    obtain ⟨hi0, hno, hyes⟩ := hff
    have m0 : MvB nmcells 3 l (fun x => !p x) (i0 + 1) (flR nmcells l) := MvB.skip nmcells_len hi0 (by simp [hyes]) (MvB.start nmcells_len l _ i0 fun x hx => by simp [hno x hx])
    have hfi0 : ((l.take (i0 + 1)).filter fun x => !p x).length = i0 := by
      rw [filter_take_succ hi0, hyes]
      rw [List.filter_eq_self.2 fun x hx => by simp [hno x hx]]
      simp
      omega
    intro hw
    refine wpc_loop2 (fun n1 s1 => ∃ (j : Nat) (vs : List V), j ≤ l.length ∧ n1 = l.length - j ∧ s1 = dlS k l.length g caps ((l.take j).filter fun x => !p x).length j (H.set k (some (.cells 85 vs))) ∧ MvB nmcells 3 l (fun x => !p x) j vs ∧ (∀ v ∈ vs, v.dataCell = true) ∧ ∀ v ∈ vs, v.Free)
      (l.length - (i0 + 1)) (dlS k l.length g caps i0 (i0 + 1) (H.set k (some (.cells 85 (flR nmcells l))))) ?_ ⟨i0 + 1, _, hi0, rfl, by rw [hfi0], m0, flR_dc l, flR_free l⟩ ?_ ?_
    · have hw0 : IntKind.i64.wrap ((i0 : Int) + 1) = ((i0 + 1 : Nat) : Int) := by rw [wrap_i64 (by omega) (by omega)]; rfl
      refine weak2 hw rfl ⟨.arr _ _ _ (by rw [List.length_set]; exact hkl), ?_, .im _, .int hw0, trivial⟩ ?_ (fun id hid => by cases hid) rfl (fun id hid => by cases hid)
      · rw [List.length_set]; exact hfn
      · rw [List.length_set]
        exact bws_set hs (flR_free l) fun id _ => by rw [set_self hk]
    · rintro n1 s1 ⟨j, vs, _, _, rfl, _⟩
      exact ⟨⟨Nat.le_refl 42, fun x hx => by cases hx⟩, rfl, by show H.length ≤ (H.set k _).length; rw [List.length_set]; exact Nat.le_refl _, rfl⟩
    rintro n1 s1 ⟨j, vs, hj, rfl, rfl, hm, hdc, hfr⟩
    generalize hH1 : H.set k (some (.cells 85 vs)) = H1
    have hk1 : H1[k]? = some (some (.cells 85 vs)) := by rw [← hH1, List.getElem?_set_self hkl]
    have hlen1 : H1.length = H.length := by rw [← hH1, List.length_set]
    have ho1 : ∀ id, id ≠ k → H1[id]? = H[id]? := fun id h => by rw [← hH1, List.getElem?_set_ne (fun h2 => h h2.symm)]
    have hile := filter_take_le (l := l) (p := fun x => !p x) (j := j)
    by_cases hjl : j < l.length
    · have hwj : IntKind.i64.wrap ((j : Int) + 1) = ((j + 1 : Nat) : Int) := by rw [wrap_i64 (by omega) (by omega)]; rfl
      have hg1 : vs.drop (j * 3) = .str l[j].1 :: .str l[j].2.1 :: .bool l[j].2.2 :: flR nmcells (l.drop (j + 1)) := by rw [hm.tl, drop_next hjl]; rfl
      have hc := hg l[j] (List.getElem_mem hjl) (H1 ++ [some (.cells 85 (nmcells l[j]))]) (fun id h1 h2 => by rw [List.getElem?_append_left (by omega)]; exact ho1 id h2)
      have hsk := fun h => MvB.skip nmcells_len hjl h hm
      have hmv := fun h => MvB.move nmcells_len hjl h hm
      have hfs := filter_take_succ (p := fun x => !p x) hjl
      generalize hi : ((l.take j).filter fun x => !p x).length = i at hmv hile
      generalize hb : p l[j] = b at hc hfs
      generalize hx : l[j] = x at hc hg1 hmv
      conv => whnf
      refine br_t (decide_eq_true (by omega)) ?_
      conv => whnf
      refine grd_intro (by
        show (true && decide ((0 : Int) ≤ (j : Int)) && decide ((j : Int) < (l.length : Int))) = true
        simp; omega) ?_
      conv => whnf
      rw [hk1]
      conv => whnf
      rw [Int.toNat_natCast, hsz85, hg1]
      iterate 3 (conv => whnf; try simp only [List.append_assoc, List.cons_append, List.nil_append, List.length_append, List.length_cons, List.length_nil, Nat.zero_add, Nat.add_assoc, Nat.reduceAdd, ga0, ga1, ga2, ga3, ga4, ga5, sa0, sa1, sa2, sa3, sa4, sa5, S2.setH_H, List.all_cons, List.all_nil, isDefd, nodupB, List.any_nil, Bool.and_true, Bool.not_false, List.foldl_cons, List.foldl_nil])
      have hc' : Call2 Go.Proofs.Tryz.prog G g (List.map V.strip ([] ++ [.agg (nmcells x)] ++ caps)) (H1 ++ [some (.cells 85 (nmcells x))]) fun v H' => H' = H1 ++ [some (.cells 85 (nmcells x))] ∧ v = .bool b := by
        rw [List.map_append, hst]; exact hc
      refine Call2.mono hc' fun r0 H0 h => ?_
      obtain ⟨h1, h2⟩ := h
      rw [h1, h2]
      clear h1 h2 r0 H0
      conv => whnf
      cases b
      · iterate 2 (conv => whnf; try simp only [List.append_assoc, List.cons_append, List.nil_append, List.length_append, List.length_cons, List.length_nil, Nat.zero_add, Nat.add_assoc, Nat.reduceAdd, ga0, ga1, ga2, ga3, ga4, ga5, sa0, sa1, sa2, sa3, sa4, sa5, S2.setH_H, List.all_cons, List.all_nil, isDefd, nodupB, List.any_nil, Bool.and_true, Bool.not_false, List.foldl_cons, List.foldl_nil])
        refine grd_intro (by
          show (true && decide ((0 : Int) ≤ (i : Int)) && decide ((i : Int) < (l.length : Int))) = true
          simp; omega) ?_
        iterate 2 (conv => whnf; try simp only [List.append_assoc, List.cons_append, List.nil_append, List.length_append, List.length_cons, List.length_nil, Nat.zero_add, Nat.add_assoc, Nat.reduceAdd, ga0, ga1, ga2, ga3, ga4, ga5, sa0, sa1, sa2, sa3, sa4, sa5, S2.setH_H, List.all_cons, List.all_nil, isDefd, nodupB, List.any_nil, Bool.and_true, Bool.not_false, List.foldl_cons, List.foldl_nil])
        rw [get_app hk1]
        iterate 2 (conv => whnf; try simp only [List.append_assoc, List.cons_append, List.nil_append, List.length_append, List.length_cons, List.length_nil, Nat.zero_add, Nat.add_assoc, Nat.reduceAdd, ga0, ga1, ga2, ga3, ga4, ga5, sa0, sa1, sa2, sa3, sa4, sa5, S2.setH_H, List.all_cons, List.all_nil, isDefd, nodupB, List.any_nil, Bool.and_true, Bool.not_false, List.foldl_cons, List.foldl_nil])
        have hml := hm.len
        refine grd_intro (show (true && Nat.ble (Int.toNat (i : Int) * 3 + 3) vs.length && true) = true from by
          rw [Bool.true_and, Bool.and_true, Nat.ble_eq, Int.toNat_natCast, hml]
          omega) ?_
        iterate 2 (conv => whnf; try simp only [List.append_assoc, List.cons_append, List.nil_append, List.length_append, List.length_cons, List.length_nil, Nat.zero_add, Nat.add_assoc, Nat.reduceAdd, ga0, ga1, ga2, ga3, ga4, ga5, sa0, sa1, sa2, sa3, sa4, sa5, S2.setH_H, List.all_cons, List.all_nil, isDefd, nodupB, List.any_nil, Bool.and_true, Bool.not_false, List.foldl_cons, List.foldl_nil])
        have hset : ∀ vs', (H1 ++ [some (Blk.cells 85 (nmcells x))]).set k vs' = H1.set k vs' ++ [some (Blk.cells 85 (nmcells x))] := fun vs' => by rw [List.set_append_left _ _ (by omega)]
        have hm2 := hmv (by rw [← hx, hb]; rfl)
        have hwi : IntKind.i64.wrap ((i : Int) + 1) = ((i + 1 : Nat) : Int) := by rw [wrap_i64 (by omega) (by omega)]; rfl
        have hfr2 : ∀ v ∈ setRange vs (i * 3) (nmcells x), v.Free := fun v hv => (setRange_mem hv).elim (hfr v) (nmcells_free' x v)
        intro hw2
        refine ⟨l.length - (j + 1), dlS k l.length g caps (i + 1) (j + 1) (H1.set k (some (.cells 85 (setRange vs (i * 3) (nmcells x))))), by omega, ?_, j + 1, setRange vs (i * 3) (nmcells x), by omega, rfl, ?_, hm2, fun v hv => (setRange_mem hv).elim (hdc v) (nmcells_dc x v), hfr2⟩
        · refine weak2 hw2 rfl ⟨.arr _ _ _ (by rw [List.length_set]; omega), by rw [List.length_set, hlen1]; exact hfn, .int hwi, .int hwj, trivial⟩ ?_ (fun id hid => by cases hid) rfl (fun id hid => by cases hid)
          rw [← hH1, List.set_set, List.length_set]
          refine bws_set hs hfr2 fun id hid => ?_
          show ((H.set k _ ++ _).set k _)[id]? = _
          rw [List.set_append_left _ _ (by rw [List.length_set]; exact hkl), List.set_set, List.getElem?_append_left (by simpa using hid)]
          rfl
        · rw [hfs, ← hH1, List.set_set]
          simp [hi]
      · iterate 2 (conv => whnf; try simp only [List.append_assoc, List.cons_append, List.nil_append, List.length_append, List.length_cons, List.length_nil, Nat.zero_add, Nat.add_assoc, Nat.reduceAdd, ga0, ga1, ga2, ga3, ga4, ga5, sa0, sa1, sa2, sa3, sa4, sa5, S2.setH_H, List.all_cons, List.all_nil, isDefd, nodupB, List.any_nil, Bool.and_true, Bool.not_false, List.foldl_cons, List.foldl_nil])
        have hm2 := hsk (by simp [hb])
        intro hw2
        refine ⟨l.length - (j + 1), dlS k l.length g caps i (j + 1) H1, by omega, ?_, j + 1, vs, by omega, rfl, ?_, hm2, hdc, hfr⟩
        · refine weak2 hw2 rfl ⟨.arr _ _ _ (by omega), by rw [hlen1]; exact hfn, .im _, .int hwj, trivial⟩ ?_ (fun id hid => by cases hid) rfl (fun id hid => by cases hid)
          rw [← hH1, List.length_set]
          exact bws_set hs hfr fun id hid => by rw [List.getElem?_append_left (by simpa using hid)]
        · rw [hfs, ← hH1]
          simp [hi]
    · have hje : j = l.length := by omega
      subst hje
      conv => whnf
      refine br_f (decide_eq_false (by omega)) ?_
      conv => whnf
      rw [List.take_length] at hile ⊢
      have hml := hm.len
      have hhd := hm.hd
      rw [List.take_length] at hhd
      generalize hq : (l.filter fun x => !p x) = q at hile hhd ⊢
      refine ⟨⟨rfl, by omega, by omega, by omega⟩, ?_⟩
      conv => whnf
      rw [hk1]
      conv => whnf
      refine ⟨⟨rfl, rfl, by decide, ?_, rfl⟩, ?_⟩
      · show (Int.toNat (q.length : Int)) * 3 + (Int.toNat (l.length : Int) - Int.toNat (q.length : Int)) * 3 ≤ vs.length
        rw [Int.toNat_natCast, Int.toNat_natCast, hml]
        omega
      conv => whnf
      refine ⟨⟨rfl, Int.le_refl _, by omega, by omega⟩, ?_⟩
      conv => whnf
      have hz : ∀ n, ∀ v ∈ (List.replicate n [V.str [], V.str [], V.bool false]).flatten, v = V.str [] ∨ v = V.bool false := fun n v hv => by
        obtain ⟨r, hr, hv⟩ := List.mem_flatten.1 hv
        rw [List.eq_of_mem_replicate hr] at hv
        simp only [List.mem_cons, List.not_mem_nil, or_false] at hv
        rcases hv with rfl | rfl | rfl <;> simp
      have hzl : ∀ n, (List.replicate n [V.str [], V.str [], V.bool false]).flatten.length = n * 3 := fun n => by
        rw [List.length_flatten]; simp
      refine ⟨setRange vs (Int.toNat (q.length : Int) * 3) (List.replicate (Int.toNat (l.length : Int) - Int.toNat (q.length : Int)) [V.str [], V.str [], V.bool false]).flatten, ?_, rfl, ?_, ?_, fun v hv => (setRange_mem hv).elim (hdc v) fun h => (hz _ v h).elim (fun h => h ▸ rfl) fun h => h ▸ rfl⟩
      · rw [← hH1, List.set_set]
        rfl
      · rw [Int.toNat_natCast]
        unfold setRange
        rw [List.append_assoc, List.take_left' (by rw [List.length_take, hml]; omega)]
        exact hhd
      · rw [Int.toNat_natCast, Int.toNat_natCast]
        unfold setRange
        simp only [List.length_append, List.length_take, List.length_drop, hzl, hml]
        omega
end Go.Abs.Sig

/-! LK4 -/
namespace Go.Abs.Sig
open Go.RowKit Go.Abs
set_option linter.unusedSimpArgs false
set_option linter.unusedVariables false
set_option maxRecDepth 8000
attribute [local irreducible] StCall StYield WPc Weak IterOf Lp2

theorem nmdel0_ct (G : Nat → Option (List V)) (g : FuncId) (caps : List V) (H : Heap) (hcaps : ∀ v ∈ caps, VW H.length v v ∧ v.strip = v) :
    Call2 Go.Proofs.Tryz.prog G 124 [.dat 3 [] .no, .fn (.func g) [] caps] H fun v H' => H' = H ∧ v = .dat 3 [] .no := by
  have hix := nmIndex_ct G [] (Nat.zero_le _) g caps (fun _ => false) H hcaps (fun x hx => by cases hx)
  refine stCall2 Go.Proofs.Tryz.func124 rfl (by decide) ?_
  conv => whnf
  refine Call2.mono (show Call2 Go.Proofs.Tryz.prog G 146 _ _ _ from hix) fun r0 H0 h => ?_
  obtain ⟨h1, h2⟩ := h
  rw [h1, h2]
  clear h1 h2 r0 H0
  conv => whnf
  exact ⟨rfl, rfl⟩

def dropL (n : NamesL) (mine : List UInt8) : NamesL × Bool := ({ n with l := n.l.filter fun x => !decide (x.1 = mine) }, decide ((n.l.filter fun x => !decide (x.1 = mine)).length < n.l.length))
theorem namesC_dc (n : NamesL) : ∀ v ∈ namesC n, v.dataCell = true := by
  intro v hv
  simp only [namesC, List.mem_cons, List.not_mem_nil, or_false] at hv
  rcases hv with rfl | rfl | rfl <;> rfl
theorem dropR_free (n : NamesL) (b : Bool) : (V.tup [.agg (namesC n), .bool b]).Free := .tup _ (by
  intro v hv
  simp only [List.mem_cons, List.not_mem_nil, or_false] at hv
  rcases hv with rfl | rfl
  · exact .agg _ (namesC_free' _)
  · exact .im _)
theorem drop_ct (G : Nat → Option (List V)) (n : NamesL) (mine : List UInt8) (hb : n.l.length * 40 ≤ maxBytes) (H : Heap) :
    Call2 Go.Proofs.Tryz.prog G 89 [.agg (namesC n), .str mine] H fun r H' => H' = H ∧ r = .tup [.agg (namesC (dropL n mine).1), .bool (dropL n mine).2] := by
  refine Call2.free (fun x hx => by
    simp only [List.mem_cons, List.not_mem_nil, or_false] at hx
    rcases hx with rfl | rfl
    · exact .agg _ (namesC_free' _)
    · exact .str _) ?_ H
  refine Call2.freeze ?_
  obtain ⟨who, made, l⟩ := n
  unfold dropL
  simp only at hb ⊢
  have hvl : (nmR l).length = l.length := by simp [nmR]
  have hmb : maxBytes = 140737488355328 := rfl
  have hmx : maxLen = 9223372036854775807 := rfl
  have hcl := nmclone_ct G l hb
  have hdl := fun (z : Blk) => nmdel_ct G l (by omega) 126 [.ptr 1 0] (fun x => decide (x.1 = mine)) [some (.cells 31 (namesC ⟨who, made, l⟩)), some (.cells 9 [.str mine]), some z, some (.cells 85 (flR nmcells l))] 3 rfl
    (ptr_sc (Nat.le_of_ble_eq_true rfl)) (fun x _ H1 h => drop1_ct G H1 1 mine (by rw [h 1 (by show 1 < 4; omega) (by omega)]; rfl) x)
  generalize hq : (l.filter fun x => !decide (x.1 = mine)) = q at hdl
  have hql : q.length ≤ l.length := by rw [← hq]; exact List.length_filter_le _ _
  refine stCall2 Go.Proofs.Tryz.func89 rfl (by decide) ?_
  conv => whnf
  refine Call2.mono (hcl _) fun r0 H0 h => ?_
  rcases h with ⟨rfl, h1, h2⟩ | ⟨hne, h1, h2⟩
  · rw [h1, h2]
    clear h1 h2 r0 H0 hdl
    have hq0 : q = [] := by rw [← hq]; rfl
    subst hq0
    conv => whnf
    refine Call2.mono (nmdel0_ct G 126 [.ptr 1 0] _ (ptr_sc (Nat.le_of_ble_eq_true rfl))) fun r0 H0 h => ?_
    obtain ⟨h1, h2⟩ := h
    rw [h1, h2]
    clear h1 h2 r0 H0
    conv => whnf
    intro hw
    refine wpc_drawG2 [6] [] [(2, 6)] (by rfl) (by decide) (by decide) hw ?_
    conv => whnf
    exact ⟨0, 31, namesC ⟨who, made, []⟩, _, Nat.zero_le _, rfl, namesC_dc _, .same _, dropR_free ⟨who, made, []⟩ _, rfl⟩
  · rw [h1, h2]
    clear h1 h2 r0 H0
    conv => whnf
    refine Call2.mono (hdl _) fun r0 H0 h => ?_
    obtain ⟨vs, h1, h2, h3, h4, h5⟩ := h
    rw [h1, h2]
    clear h1 h2 r0 H0
    conv => whnf
    intro hw
    refine wpc_drawG2 [6] [] [(2, 6)] (by rfl) (by decide) (by decide) hw ?_
    conv => whnf
    have hch := chunks_flR nmcells_len q vs h3 (by rw [h4]; omega)
    refine ⟨3, 85, vs, .tup [.agg (namesC ⟨who, made, q⟩), .bool (decide (q.length < l.length))], Nat.zero_le _, rfl, h5, ?_, dropR_free ⟨who, made, q⟩ _, ?_⟩
    · refine .tup _ _ rfl fun j v1 v2 h1 h2 => ?_
      match j with
      | 0 =>
        cases h1; cases h2
        refine .agg _ _ rfl fun j v1 v2 h1 h2 => ?_
        match j with
        | 0 => cases h1; cases h2; exact .same _
        | 1 => cases h1; cases h2; exact .same _
        | 2 =>
          cases h1; cases h2
          have := Fz.arr (id := 3) (vs := vs) 3 q.length (by rw [h4]; omega) (by decide)
          rw [hch] at this
          exact this
        | j + 3 => cases h2
      | 1 =>
        cases h1; cases h2
        have e : decide ((q.length : Int) < ((nmR l).length : Int)) = decide (q.length < l.length) := by rw [hvl]; simp
        rw [← e]
        exact .same _
      | j + 2 => cases h2
    · rfl
end Go.Abs.Sig

/-! LH3 -/
namespace Go.Abs.Sig
open Go.RowKit Go.Abs
set_option linter.unusedSimpArgs false
set_option linter.unusedVariables false
set_option maxRecDepth 8000

/-! the names that are made up -/
def figVal (l : List UInt8) : Nat := l.foldl (fun a d => a * 10 + (d.toNat - 48)) 0
theorem figVal_app (l : List UInt8) (d : UInt8) : figVal (l ++ [d]) = figVal l * 10 + (d.toNat - 48) := by
  unfold figVal
  rw [List.foldl_append]
  rfl
theorem figVal_fig (n : Nat) : figVal (fig n) = n := by
  induction n using Nat.strongRecOn with
  | _ n ih =>
    rw [fig]
    split
    · rename_i h
      show 0 * 10 + ((UInt8.ofNat (48 + n)).toNat - 48) = n
      rw [UInt8.toNat_ofNat']
      omega
    · rename_i h
      rw [figVal_app, ih (n / 10) (by omega), UInt8.toNat_ofNat']
      omega
theorem fig_inj {a b : Nat} (h : fig a = fig b) : a = b := by rw [← figVal_fig a, h, figVal_fig]

theorem pigeonL {α : Type} [DecidableEq α] : ∀ (l1 l2 : List α), l1.Nodup → (∀ x ∈ l1, x ∈ l2) → l1.length ≤ l2.length
  | [], _, _, _ => Nat.zero_le _
  | x :: l, l2, hn, hs => by
    rw [List.nodup_cons] at hn
    have hx : x ∈ l2 := hs x (List.mem_cons_self)
    have h1 := pigeonL l (l2.erase x) hn.2 fun y hy => (List.mem_erase_of_ne (fun h : y = x => hn.1 (h ▸ hy))).2 (hs y (List.mem_cons_of_mem _ hy))
    have h2 := List.length_erase_of_mem hx
    have h3 := List.length_pos_of_mem hx
    simp only [List.length_cons]
    omega

def amqS (made : Int) : List UInt8 := [97, 109, 113, 46, 99] ++ fig made.toNat
theorem amqS_inj {a b : Int} (ha : 0 ≤ a) (hb : 0 ≤ b) (h : amqS a = amqS b) : a = b := by
  unfold amqS at h
  have := fig_inj (List.append_cancel_left h)
  omega
def madeAt (made : Int) (j : Nat) : Int := IntKind.u64.wrap (made + j)
theorem madeAt_zero {made : Int} (h0 : 0 ≤ made) (h1 : made < 18446744073709551616) : madeAt made 0 = made := by
  unfold madeAt
  rw [IntKind.wrap_u64]
  omega
theorem madeAt_succ (made : Int) (j : Nat) : IntKind.u64.wrap (madeAt made j + 1) = madeAt made (j + 1) := by
  unfold madeAt
  simp only [IntKind.wrap_u64]
  omega
theorem madeAt_rng (made : Int) (j : Nat) : 0 ≤ madeAt made j ∧ madeAt made j < 18446744073709551616 := by
  unfold madeAt
  simp only [IntKind.wrap_u64]
  omega
theorem madeAt_inj {made : Int} {i j : Nat} (hi : i < 18446744073709551616) (hj : j < 18446744073709551616) (h : madeAt made i = madeAt made j) : i = j := by
  unfold madeAt at h
  simp only [IntKind.wrap_u64] at h
  omega

theorem toL_mem {l : List Nm} {s : List UInt8} (h : (toL l s).2 = true) : s ∈ l.map (·.1) := by
  unfold toL nmFind at h
  split at h
  · rename_i x hx
    have h1 := List.find?_some hx
    have h2 := List.mem_of_find?_eq_some hx
    rw [List.mem_map]
    exact ⟨x, h2, of_decide_eq_true h1⟩
  · cases h
/-- Not all of these names can be there. -/
theorem made_free (l : List Nm) (made : Int) (hl : l.length < 18446744073709551615) (h : ∀ i, i < l.length + 1 → (toL l (amqS (madeAt made i))).2 = true) : False := by
  have := pigeonL ((List.range (l.length + 1)).map fun i => amqS (madeAt made i)) (l.map (·.1)) ?_ ?_
  · simp only [List.length_map, List.length_range] at this
    omega
  · rw [List.nodup_iff_pairwise_ne, List.pairwise_map]
    refine List.Pairwise.imp_of_mem ?_ (List.nodup_iff_pairwise_ne.1 List.nodup_range)
    intro a b ha hb hne he
    rw [List.mem_range] at ha hb
    exact hne (madeAt_inj (by omega) (by omega) (amqS_inj (madeAt_rng _ _).1 (madeAt_rng _ _).1 he))
  · intro x hx
    obtain ⟨i, hi, rfl⟩ := List.mem_map.1 hx
    exact toL_mem (h i (List.mem_range.1 hi))

/-- The first name that isn't there, and the next number. -/
def madeL (l : List Nm) : Nat → Int → List UInt8 × Int
  | 0, made => (amqS made, IntKind.u64.wrap (made + 1))
  | f + 1, made => if (toL l (amqS made)).2 = true then madeL l f (IntKind.u64.wrap (made + 1)) else (amqS made, IntKind.u64.wrap (made + 1))
theorem madeL_step {l : List Nm} {made : Int} (h0 : 0 ≤ made) (h1 : made < 18446744073709551616) : ∀ j, j ≤ l.length → (∀ i, i < j → (toL l (amqS (madeAt made i))).2 = true) →
    madeL l (l.length + 1) made = madeL l (l.length + 1 - j) (madeAt made j)
  | 0, _, _ => by rw [madeAt_zero h0 h1]; rfl
  | j + 1, hj, h => by
    rw [madeL_step h0 h1 j (by omega) fun i hi => h i (by omega)]
    have e : l.length + 1 - j = (l.length + 1 - (j + 1)) + 1 := by omega
    rw [e, madeL, if_pos (h j (by omega)), madeAt_succ]
end Go.Abs.Sig

/-! LH1 -/
namespace Go.Abs.Sig
open Go.Proofs Go.Shelf Go.RowKit Go.Sort Go.Lib
set_option linter.unusedSimpArgs false
set_option linter.unusedVariables false
set_option maxRecDepth 8000

/-! the library's figures, over the first cells of its table alone -/
def PowAt (g : Nat) (w : World) : Prop := ∀ q, q < 20 → w.cell? ⟨g, q, none⟩ = some (.int .u64 ((10 ^ q : Nat) : Int))
theorem PowAt.alloc {g : Nat} {w : World} (h : PowAt g w) (o : Obj) : PowAt g (w.alloc o) := by
  intro q hq
  have h1 := h q hq
  have hlt : g < w.heap.size := by
    rcases Nat.lt_or_ge g w.heap.size with h' | h'
    · exact h'
    · simp [World.cell?, Array.getElem?_eq_none h'] at h1
  unfold World.cell? at h1 ⊢
  rw [RowKit.Below.heap_alloc w o g hlt]
  exact h1

variable {Pg : Program} {ρ : Ren}
theorem numDigits_calls (L : LaysM.n284 Pg ρ) (u : Nat) (h1 : 1 ≤ u) (h2 : u < 18446744073709551616) (w : World)
    (htab : PowAt (ρ.g 17) w) :
    Calls Pg (ρ.f 284) #[.int .u64 u] w fun e w' => e = .returned (.int .i64 (Lib.nDigits u)) ∧ w' = w := by
  have mixed := L.mixed
  have t53 := L.t53; have a53 := L.a53; have z53 := L.z53; have v53 := L.v53
  have t3 := L.t3; have a3 := L.a3; have z3 := L.z3; have v3 := L.v3
  have t212 := L.t212; have a212 := L.a212; have z212 := L.z212; have v212 := L.v212
  have t0 := L.t0; have a0 := L.a0; have z0 := L.z0; have v0 := L.v0
  have t4 := L.t4; have a4 := L.a4; have z4 := L.z4; have v4 := L.v4
  have e129 : ∀ args w, (callFunc (ρ.f 129) args).run Pg w = .ok (.enter (ρ.f 129) args) w := enters_of L.f129 (by kernel_rfl) rfl
  have e317 : ∀ args w, (callFunc (ρ.f 317) args).run Pg w = .ok (.enter (ρ.f 317) args) w := enters_of L.f317 (by kernel_rfl) rfl
  have e318 : ∀ args w, (callFunc (ρ.f 318) args).run Pg w = .ok (.enter (ρ.f 318) args) w := enters_of L.f318 (by kernel_rfl) rfl
  obtain ⟨hnd, h19⟩ := Lib.numDigits_eq u h1 h2
  have hL : Lib.bitLen u ≤ 64 := Lib.bitLen_le u 64 (Nat.le_refl _) h2
  have hcell : w.cell? ⟨(ρ.g 17), Lib.l10 (Lib.bitLen u), none⟩ = some (.int .u64 ((10 ^ Lib.l10 (Lib.bitLen u) : Nat) : Int)) := htab _ (by omega)
  have hto : ((u : Int)).toNat = u := by omega
  generalize hq : Lib.l10 (Lib.bitLen u) = q at hnd h19 hcell
  generalize hT : 10 ^ q = T at hnd hcell
  have h20 : q < 20 := by omega
  have Hnd := Lib.hid hnd
  clear hnd htab
  go_enter L.f284, Body.n284_ntmps ρ
  go_wp2_with (first
    | (go_at_fn (ρ.f 129); refine (Any.bits_Len64 { L with } _ _ (by omega) (by omega)).mono ?_; rintro e w' ⟨rfl, rfl⟩)
    | (go_at_fn (ρ.f 317); refine (Any.internal_strconv_log10Pow2 { L with } _ (by first | exact hL | (rw [hto]; exact hL)) _).mono ?_; rintro e w' ⟨rfl, rfl⟩)
    | (go_at_fn (ρ.f 318); refine (Any.internal_strconv_bool2_int { L with } _ _).mono ?_; rintro e w' ⟨rfl, rfl⟩))
  all_goals go_ret
  all_goals (
    refine ⟨?_, rfl⟩
    have hnd := Hnd.out
    congr 2
    split at hnd <;> simp_all <;> omega)

set_option maxHeartbeats 6400000 in
set_option maxRecDepth 100000 in
theorem formatInt_calls (L : LaysM.n246 Pg ρ) (n : Int) (h0 : 0 ≤ n) (h1 : n ≤ 9223372036854775807) (w : World) (htab : PowAt (ρ.g 17) w) :
    Calls Pg (ρ.f 246) #[.int .i64 n, .int .i64 10] w fun e w' => e = .returned (.string ⟨(Lib.itoa n).toArray⟩) ∧ ∃ k os, w' = grow (w.drewN k) os := by
  have mixed := L.mixed
  have t2 := L.t2; have a2 := L.a2; have z2 := L.z2; have v2 := L.v2
  have t3 := L.t3; have a3 := L.a3; have z3 := L.z3; have v3 := L.v3
  have t9 := L.t9; have a9 := L.a9; have z9 := L.z9; have v9 := L.v9
  have t4 := L.t4; have a4 := L.a4; have z4 := L.z4; have v4 := L.v4
  have t171 := L.t171; have a171 := L.a171; have z171 := L.z171; have v171 := L.v171
  have t0 := L.t0; have a0 := L.a0; have z0 := L.z0; have v0 := L.v0
  have t53 := L.t53; have a53 := L.a53; have z53 := L.z53; have v53 := L.v53
  have t37 := L.t37; have a37 := L.a37; have z37 := L.z37; have v37 := L.v37
  have t5 := L.t5; have a5 := L.a5; have z5 := L.z5; have v5 := L.v5
  have t173 := L.t173; have a173 := L.a173; have z173 := L.z173; have v173 := L.v173
  have e283 : ∀ args w, (callFunc (ρ.f 283) args).run Pg w = .ok (.enter (ρ.f 283) args) w := enters_of L.f283 (by kernel_rfl) rfl
  have e284 : ∀ args w, (callFunc (ρ.f 284) args).run Pg w = .ok (.enter (ρ.f 284) args) w := enters_of L.f284 (by kernel_rfl) rfl
  have e285 : ∀ args w, (callFunc (ρ.f 285) args).run Pg w = .ok (.enter (ρ.f 285) args) w := enters_of L.f285 (by kernel_rfl) rfl
  by_cases hs : 0 ≤ n ∧ n < 100
  · -- 0 .. 99: two constants
    obtain ⟨i, rfl⟩ : ∃ i : Nat, n = i := ⟨n.toNat, by omega⟩
    have hi : i < 100 := by omega
    go_enter L.f246, Body.n246_ntmps ρ
    go_wp2_with (go_at_fn (ρ.f 283); refine (Any.internal_strconv_small { L with } i hi _).mono ?_; rintro e w' ⟨rfl, rfl⟩)
    go_ret
    refine ⟨?_, 0, #[], by simp [World.drewN_zero]⟩
    rw [Lib.itoa_nonneg]
    rfl
  · obtain ⟨u, rfl⟩ : ∃ u : Nat, n = u := ⟨n.toNat, by omega⟩
    have hu1 : 1 ≤ u := by omega
    have hu64 : u < 18446744073709551616 := by omega
    have hnd20 : Lib.nDigits u ≤ 20 := by have := Lib.numDigits_eq u hu1 hu64; split at this <;> omega
    have hb3 : Lib.nDigits u ≤ 23 := by omega
    have hal : Pg.arrayLen (ρ.t 171) = 24 := by simp [Program.arrayLen, L.t171]
    -- 'a[1 : 1+nd]', for the walk to take
    have hsl1 : ∀ W, (Instr.sliceAt (ρ.t 171) (.pointer (some ⟨w.heap.size, 0, none⟩)) (some (.int .i64 1)) (some (.int .i64 (1 + (Lib.nDigits u : Int)))) none).run Pg W = .ok (.slice (some ⟨w.heap.size, 1, none⟩) (Lib.nDigits u) 23) W := fun W => by
      rw [run_sliceAt_array_lh W (ρ.t 171) ⟨w.heap.size, 0, none⟩ (by simp [Program.arrayLen, Program.elem, L.t171]) .i64 .i64 1 (1 + (Lib.nDigits u : Int)) (by omega) (by omega) (by rw [hal]; omega)]
      go_simp
      omega
    -- formatBase10's contract at the new block's row of zeros
    have hH0 := Lib.holds_zero w (ρ.t 171) (Lib.nDigits u) (by omega)
    have hfmt := Any.internal_strconv_formatBase10 { L with } w.heap.size 1 23 u (Array.replicate (Lib.nDigits u) 0) (w.alloc (.cells Lib.zeros24 (ρ.t 171))) hH0 (by rw [Array.size_replicate]; exact Lib.lt_pow_nDigits u) hu64 (by rw [Array.size_replicate]; omega)
    rw [Array.size_replicate] at hfmt
    have HH0 := Lib.hid hH0
    clear hH0 hal
    go_enter L.f246, Body.n246_ntmps ρ
    go_wp2_with (first
      | (go_at_fn (ρ.f 284); refine (numDigits_calls { L with } u hu1 hu64 _ (htab.alloc _)).mono ?_; rintro e w' ⟨rfl, rfl⟩))
    go_at_fn (ρ.f 285)
    refine hfmt.mono ?_
    rintro e w' ⟨rfl, k, v', dk, rfl, hF⟩
    -- 'string(a[1 : 1+nd])', for the walk to take: the row reads as the numeral
    have hcv : (convert (ρ.t 37) (ρ.t 9) (.slice (some ⟨w.heap.size, 1, none⟩) (Lib.nDigits u) 23)).run Pg ((putRow (fun (b : UInt8) => Value.int .u8 (b.toNat : Int)) (w.alloc (.cells Lib.zeros24 (ρ.t 171))) w.heap.size 1 dk).drewN k) = .ok (.string ⟨(Lib.decDigits u).toArray⟩) ((putRow (fun (b : UInt8) => Value.int .u8 (b.toNat : Int)) (w.alloc (.cells Lib.zeros24 (ρ.t 171))) w.heap.size 1 dk).drewN k) := by
      have h := run_convert_bytes_back ((putRow (fun (b : UInt8) => Value.int .u8 (b.toNat : Int)) (w.alloc (.cells Lib.zeros24 (ρ.t 171))) w.heap.size 1 dk).drewN k) (ρ.t 37) (ρ.t 9) (ρ.t 5) ⟨w.heap.size, 1, none⟩ 23 (Lib.decDigits u) L.t37 L.t5 L.t9 (fun j hj => by
        rw [Lib.row_is_numeral hF j hj, Lib.add_plain, World.cell?_drewN]
        exact cell?_putRow (fun (b : UInt8) => Value.int .u8 (b.toNat : Int)) _ w.heap.size 1 _ dk HH0.out (by rw [hF.size, Array.size_replicate]) j (by rw [hF.size]; rw [Lib.decDigits_length] at hj; exact hj))
      rw [Lib.decDigits_length] at h
      exact h
    go_wp2
    go_ret
    obtain ⟨os, eo⟩ := Lib.fin_pos w (.cells Lib.zeros24 (ρ.t 171)) dk k
    refine ⟨?_, k, os, eo⟩
    rw [Lib.itoa_nonneg]
    rfl

set_option maxRecDepth 100000 in
theorem itoaI_calls (L : LaysM.n243 Pg ρ) (n : Int) (h0 : 0 ≤ n) (h1 : n ≤ 9223372036854775807) (w : World) (htab : PowAt (ρ.g 17) w) :
    Calls Pg (ρ.f 243) #[.int .i64 n] w fun e w' => e = .returned (.string ⟨(Lib.itoa n).toArray⟩) ∧ ∃ k os, w' = grow (w.drewN k) os := by
  have mixed := L.mixed
  have t3 := L.t3; have a3 := L.a3; have z3 := L.z3; have v3 := L.v3
  have t9 := L.t9; have a9 := L.a9; have z9 := L.z9; have v9 := L.v9
  have t2 := L.t2; have a2 := L.a2; have z2 := L.z2; have v2 := L.v2
  have e246 : ∀ args w, (callFunc (ρ.f 246) args).run Pg w = .ok (.enter (ρ.f 246) args) w := enters_of L.f246 (by kernel_rfl) rfl
  go_enter L.f243, Body.n243_ntmps ρ
  go_wp2_with (go_at_fn (ρ.f 246); refine (formatInt_calls { L with } n h0 h1 _ htab).mono ?_; rintro e w' ⟨rfl, k, os, rfl⟩)
  go_ret
  exact ⟨rfl, k, os, rfl⟩

set_option maxRecDepth 100000 in
theorem itoa_calls (L : LaysM.n171 Pg ρ) (n : Int) (h0 : 0 ≤ n) (h1 : n ≤ 9223372036854775807) (w : World) (htab : PowAt (ρ.g 17) w) :
    Calls Pg (ρ.f 171) #[.int .i64 n] w fun e w' => e = .returned (.string ⟨(Lib.itoa n).toArray⟩) ∧ ∃ k os, w' = grow (w.drewN k) os := by
  have mixed := L.mixed
  have t3 := L.t3; have a3 := L.a3; have z3 := L.z3; have v3 := L.v3
  have t9 := L.t9; have a9 := L.a9; have z9 := L.z9; have v9 := L.v9
  have e243 : ∀ args w, (callFunc (ρ.f 243) args).run Pg w = .ok (.enter (ρ.f 243) args) w := enters_of L.f243 (by kernel_rfl) rfl
  go_enter L.f171, Body.n171_ntmps ρ
  go_wp2_with (go_at_fn (ρ.f 243); refine (itoaI_calls { L with } n h0 h1 _ htab).mono ?_; rintro e w' ⟨rfl, k, os, rfl⟩)
  go_ret
  exact ⟨rfl, k, os, rfl⟩
end Go.Abs.Sig

/-! LE1 -/
namespace Go.Abs.Sig
open Go.RowKit Go.Abs
set_option linter.unusedSimpArgs false
set_option linter.unusedVariables false
set_option maxRecDepth 8000
attribute [local irreducible] StCall StYield WPc Weak IterOf Lp2

/-! a short text -/
def shortL (s : List UInt8) : List UInt8 × Int := if (nput 1 (s.length : Int)).2 ≠ 0 then ([], (nput 1 (s.length : Int)).2) else ((nput 1 (s.length : Int)).1 ++ s, 0)
theorem lay_ct (G : Nat → Option (List V)) (hG : G 1 = some wV) (s : List UInt8) (hs : s.length ≤ maxStr) (hn : (nput 1 (s.length : Int)).1.length ≤ 8) (H : Heap) :
    Call2 Go.Proofs.Tryz.prog G 167 [.int .i64 1, .str s] H fun r H' => H' = H ∧ r = .tup [.str (shortL s).1, .int .i64 (shortL s).2] := by
  refine Call2.free (fun y hy => by
    simp only [List.mem_cons, List.not_mem_nil, or_false] at hy
    rcases hy with rfl | rfl
    · exact .im _
    · exact .str _) ?_ H
  have hp := nput_ct G hG 1 (.inl rfl) (s.length : Int)
  have hs' : s.length ≤ 1152921504606846976 := hs
  have fr : ∀ (a : List UInt8) (e : Int), (V.tup [.str a, .int .i64 e]).Free := fun a e => .tup _ (by
    intro v hv
    simp only [List.mem_cons, List.not_mem_nil, or_false] at hv
    rcases hv with rfl | rfl
    · exact .str _
    · exact .im _)
  unfold shortL
  generalize nput 1 (s.length : Int) = u at hp hn ⊢
  obtain ⟨us, ue⟩ := u
  have hn : us.length ≤ 8 := hn
  have hw : IntKind.u64.wrap (s.length : Int) = (s.length : Int) := wrap_u64 (by omega) (by omega)
  by_cases h0 : ue = 0
  · rw [if_neg (fun h => h h0)]
    refine stCall2 Go.Proofs.Tryz.func167 rfl (by decide) ?_
    conv => whnf
    rw [hw]
    refine Call2.mono (hp _) fun r0 H0 h => ?_
    obtain ⟨h1, h2⟩ := h
    rw [h1, h2]
    clear h1 h2 r0 H0
    conv => whnf
    refine br_f (show decide (ue ≠ 0) = false from decide_eq_false (fun h => h h0)) ?_
    conv => whnf
    refine ⟨?_, ?_⟩
    · show ((us.length + s.length : Nat) : Int) ≤ 9223372036854775807
      omega
    conv => whnf
    exact ⟨fr _ _, rfl⟩
  · rw [if_pos h0]
    refine stCall2 Go.Proofs.Tryz.func167 rfl (by decide) ?_
    conv => whnf
    rw [hw]
    refine Call2.mono (hp _) fun r0 H0 h => ?_
    obtain ⟨h1, h2⟩ := h
    rw [h1, h2]
    clear h1 h2 r0 H0
    conv => whnf
    refine br_t (show decide (ue ≠ 0) = true from decide_eq_true h0) ?_
    conv => whnf
    exact ⟨fr _ _, rfl⟩
theorem short_ct (G : Nat → Option (List V)) (hG : G 1 = some wV) (s : List UInt8) (hs : s.length ≤ maxStr) (hn : (nput 1 (s.length : Int)).1.length ≤ 8) (H : Heap) :
    Call2 Go.Proofs.Tryz.prog G 144 [.str s] H fun r H' => H' = H ∧ r = .tup [.str (shortL s).1, .int .i64 (shortL s).2] := by
  have hl := lay_ct G hG s hs hn
  generalize shortL s = u at hl ⊢
  refine stCall2 Go.Proofs.Tryz.func144 rfl (by decide) ?_
  conv => whnf
  refine Call2.mono (hl _) fun r0 H0 h => ?_
  obtain ⟨h1, h2⟩ := h
  rw [h1, h2]
  clear h1 h2 r0 H0
  conv => whnf
  exact ⟨rfl, rfl⟩
end Go.Abs.Sig

/-! LE2 -/
namespace Go.Abs.Sig
open Go.RowKit Go.Abs
set_option linter.unusedSimpArgs false
set_option linter.unusedVariables false
set_option maxRecDepth 8000
attribute [local irreducible] StCall StYield WPc Weak IterOf Lp2

theorem nput1 (n : Nat) (hn : n < 9223372036854775808) : (nput 1 (n : Int)).2 = (if 255 < n then 4 else 0) ∧ (nput 1 (n : Int)).1.length ≤ 8 := by
  unfold nput
  by_cases h : 255 < n
  · have hb : tooBig 1 (n : Int) = true := by
      show decide ((n : Int).fdiv (2 ^ (8 * 1)) ≠ 0) = true
      rw [decide_eq_true_eq, show (2 : Int) ^ (8 * 1) = 256 from rfl, Int.fdiv_eq_ediv_of_nonneg _ (by omega)]
      omega
    rw [if_pos hb, if_pos h]
    exact ⟨rfl, by simp⟩
  · have hb : ¬tooBig 1 (n : Int) = true := by
      show ¬decide ((n : Int).fdiv (2 ^ (8 * 1)) ≠ 0) = true
      rw [decide_eq_true_eq, show (2 : Int) ^ (8 * 1) = 256 from rfl, Int.fdiv_eq_ediv_of_nonneg _ (by omega)]
      omega
    rw [if_neg hb, if_neg h]
    exact ⟨rfl, by simp [putB]⟩

/-- The name that the broker knows; Itoa's contract is still wanting. -/
theorem nup_ct (G : Nat → Option (List V)) (hG : G 1 = some wV) (who : Int) (hw : who < 9223372036854775808) (hi : 1 ≤ who → ∀ H, Call2 Go.Proofs.Tryz.prog G 143 [.int .i64 who] H fun r H' => H' = H ∧ r = .str (fig who.toNat)) (mine : List UInt8) (hm : mine.length ≤ maxBytes) (H : Heap) :
    Call2 Go.Proofs.Tryz.prog G 119 [.int .i64 who, .str mine] H fun r H' => H' = H ∧ r = .tup [.str (upL who mine).1, .int .i64 (upL who mine).2] := by
  refine Call2.free (fun x hx => by
    simp only [List.mem_cons, List.not_mem_nil, or_false] at hx
    rcases hx with rfl | rfl
    · exact .im _
    · exact .str _) ?_ H
  have hmb : maxBytes = 140737488355328 := rfl
  have fr : ∀ (a : List UInt8) (e : Int), (V.tup [.str a, .int .i64 e]).Free := fun a e => .tup _ (by
    intro v hv
    simp only [List.mem_cons, List.not_mem_nil, or_false] at hv
    rcases hv with rfl | rfl
    · exact .str _
    · exact .im _)
  unfold upL
  by_cases h1 : who < 1
  · rw [if_pos h1]
    refine stCall2 Go.Proofs.Tryz.func119 rfl (by decide) ?_
    conv => whnf
    refine br_t (decide_eq_true h1) ?_
    conv => whnf
    exact ⟨fr _ _, rfl⟩
  rw [if_neg h1]
  by_cases h2 : mine = []
  · rw [if_pos h2]
    refine stCall2 Go.Proofs.Tryz.func119 rfl (by decide) ?_
    conv => whnf
    refine br_f (decide_eq_false h1) ?_
    conv => whnf
    refine br_t (show decide (mine = []) = true from decide_eq_true h2) ?_
    conv => whnf
    exact ⟨fr _ _, rfl⟩
  rw [if_neg h2]
  have hf := hi (by omega)
  have hfl := fig_len 19 who.toNat (by omega)
  have hsl : (upS who mine).length = (fig who.toNat).length + 1 + mine.length := by simp [upS]; omega
  have hn1 := nput1 (upS who mine).length (by omega)
  have hsh := short_ct G hG (upS who mine) (by unfold maxStr; omega) hn1.2
  have hse : (shortL (upS who mine)).2 = if 255 < (upS who mine).length then 4 else 0 := by
    unfold shortL
    rw [hn1.1]
    split <;> split <;> simp_all
  generalize hS : upS who mine = s at *
  unfold upS at hS
  generalize shortL s = u at hsh hse
  obtain ⟨us, ue⟩ := u
  have hse : ue = if 255 < s.length then 4 else 0 := hse
  refine stCall2 Go.Proofs.Tryz.func119 rfl (by decide) ?_
  conv => whnf
  refine br_f (decide_eq_false h1) ?_
  conv => whnf
  refine br_f (show decide (mine = []) = false from decide_eq_false h2) ?_
  conv => whnf
  refine Call2.mono (hf _) fun r0 H0 h => ?_
  obtain ⟨h1, h2⟩ := h
  rw [h1, h2]
  clear h1 h2 r0 H0
  conv => whnf
  refine ⟨?_, ?_⟩
  · show (((fig who.toNat).length + 1 : Nat) : Int) ≤ 9223372036854775807
    omega
  conv => whnf
  refine ⟨?_, ?_⟩
  · show (((fig who.toNat ++ [47]).length + mine.length : Nat) : Int) ≤ 9223372036854775807
    rw [List.length_append]
    simp
    omega
  have hS' : fig who.toNat ++ ({ data := #[47] } : ByteArray).data.toList ++ mine = s := hS
  rw [hS']
  conv => whnf
  refine Call2.mono (hsh _) fun r0 H0 h => ?_
  obtain ⟨h1, h2⟩ := h
  rw [h1, h2]
  clear h1 h2 r0 H0
  conv => whnf
  by_cases h3 : 255 < s.length
  · rw [if_pos h3] at hse
    subst hse
    rw [if_pos h3]
    exact ⟨fr _ _, rfl⟩
  · rw [if_neg h3] at hse
    subst hse
    rw [if_neg h3]
    exact ⟨fr _ _, rfl⟩
end Go.Abs.Sig

/-! LE3 -/
namespace Go.Proofs
def Tryz.lays171_ren : Go.Shelf.Ren := ⟨fun | 171 => 143 | 243 => 166 | 246 => 184 | 283 => 162 | 284 => 163 | 285 => 164 | 286 => 165 | 129 => 180 | 317 => 179 | 318 => 181 | 319 => 182 | 320 => 183 | 337 => 190 | 338 => 191 | n => n, fun | 3 => 3 | 9 => 9 | 2 => 2 | 4 => 4 | 171 => 226 | 0 => 0 | 53 => 22 | 37 => 159 | 5 => 5 | 173 => 229 | 212 => 245 | 51 => 246 | 20 => 20 | 213 => 247 | 46 => 248 | 232 => 256 | 233 => 257 | n => n, fun | 17 => 0 | 18 => 2 | 19 => 3 | n => n⟩
theorem Tryz.lays171 : LaysM.n171 Tryz.prog Tryz.lays171_ren where
  mixed := by kernel_rfl
  f129 := Tryz.func180.trans (congrArg some (by kernel_rfl))
  f171 := Tryz.func143.trans (congrArg some (by kernel_rfl))
  f243 := Tryz.func166.trans (congrArg some (by kernel_rfl))
  f246 := Tryz.func184.trans (congrArg some (by kernel_rfl))
  f283 := Tryz.func162.trans (congrArg some (by kernel_rfl))
  f284 := Tryz.func163.trans (congrArg some (by kernel_rfl))
  f285 := Tryz.func164.trans (congrArg some (by kernel_rfl))
  f286 := Tryz.func165.trans (congrArg some (by kernel_rfl))
  f317 := Tryz.func179.trans (congrArg some (by kernel_rfl))
  f318 := Tryz.func181.trans (congrArg some (by kernel_rfl))
  f319 := Tryz.func182.trans (congrArg some (by kernel_rfl))
  f320 := Tryz.func183.trans (congrArg some (by kernel_rfl))
  f337 := Tryz.func190.trans (congrArg some (by kernel_rfl))
  f338 := Tryz.func191.trans (congrArg some (by kernel_rfl))
  t0 := Tryz.underlying0
  a0 := Tryz.isAgg0
  z0 := Tryz.sizeOf0
  v0 := Tryz.zeroValue0
  t2 := Tryz.underlying2
  a2 := Tryz.isAgg2
  z2 := Tryz.sizeOf2
  v2 := Tryz.zeroValue2
  t3 := Tryz.underlying3
  a3 := Tryz.isAgg3
  z3 := Tryz.sizeOf3
  v3 := Tryz.zeroValue3
  t4 := Tryz.underlying4
  a4 := Tryz.isAgg4
  z4 := Tryz.sizeOf4
  v4 := Tryz.zeroValue4
  t5 := Tryz.underlying5
  a5 := Tryz.isAgg5
  z5 := Tryz.sizeOf5
  v5 := Tryz.zeroValue5
  t9 := Tryz.underlying9
  a9 := Tryz.isAgg9
  z9 := Tryz.sizeOf9
  v9 := Tryz.zeroValue9
  t20 := Tryz.underlying20
  a20 := Tryz.isAgg20
  z20 := Tryz.sizeOf20
  v20 := Tryz.zeroValue20
  t37 := Tryz.underlying159
  a37 := Tryz.isAgg159
  z37 := Tryz.sizeOf159
  v37 := Tryz.zeroValue159
  t46 := Tryz.underlying248
  a46 := Tryz.isAgg248
  z46 := Tryz.sizeOf248
  v46 := Tryz.zeroValue248
  t51 := Tryz.underlying246
  a51 := Tryz.isAgg246
  z51 := Tryz.sizeOf246
  v51 := Tryz.zeroValue246
  t53 := Tryz.underlying22
  a53 := Tryz.isAgg22
  z53 := Tryz.sizeOf22
  v53 := Tryz.zeroValue22
  t171 := Tryz.underlying226
  a171 := Tryz.isAgg226
  z171 := Tryz.sizeOf226
  v171 := Tryz.zeroValue226
  t173 := Tryz.underlying229
  a173 := Tryz.isAgg229
  z173 := Tryz.sizeOf229
  v173 := Tryz.zeroValue229
  t212 := Tryz.underlying245
  a212 := Tryz.isAgg245
  z212 := Tryz.sizeOf245
  v212 := Tryz.zeroValue245
  t213 := Tryz.underlying247
  a213 := Tryz.isAgg247
  z213 := Tryz.sizeOf247
  t232 := Tryz.underlying256
  a232 := Tryz.isAgg256
  z232 := Tryz.sizeOf256
  v232 := Tryz.zeroValue256
  t233 := Tryz.underlying257
  a233 := Tryz.isAgg257
  z233 := Tryz.sizeOf257
  v233 := Tryz.zeroValue257
  g17 := by kernel_rfl
  g18 := by kernel_rfl
  g19 := by kernel_rfl
  i0 := by kernel_rfl
  i2 := by kernel_rfl
  i3 := by kernel_rfl
  i4 := by kernel_rfl
  i5 := by kernel_rfl
  i9 := by kernel_rfl
  i20 := by kernel_rfl
  i37 := by kernel_rfl
  i46 := by kernel_rfl
  i51 := by kernel_rfl
  i53 := by kernel_rfl
  i171 := by kernel_rfl
  i173 := by kernel_rfl
  i212 := by kernel_rfl
  i232 := by kernel_rfl
  i233 := by kernel_rfl
  m17 := by kernel_rfl
  m18 := by kernel_rfl
  m19 := by kernel_rfl
end Go.Proofs

/-! LE4 -/
namespace Go.Abs.Sig
open Go.RowKit Go.Abs
set_option linter.unusedSimpArgs false
set_option linter.unusedVariables false
set_option maxRecDepth 8000
attribute [local irreducible] StCall StYield WPc Weak IterOf Lp2

/-! how many digits -/
end Go.Abs.Sig

/-! LE5 -/
namespace Go.Abs.Sig
open Go.RowKit Go.Abs
set_option linter.unusedSimpArgs false
set_option linter.unusedVariables false
set_option maxRecDepth 8000
attribute [local irreducible] StCall StYield WPc Weak IterOf Lp2

/-- The powers of ten, as the variable holds them. -/
def powV : List V := (List.range 20).map fun i => .int .u64 ((10 ^ i : Nat) : Int)
theorem powV_at {q : Nat} (h : q < 20) : powV[q]? = some (.int .u64 ((10 ^ q : Nat) : Int)) := by
  unfold powV
  rw [List.getElem?_map, List.getElem?_range h]
  rfl
end Go.Abs.Sig

/-! LE6 -/
namespace Go.Abs.Sig
open Go.RowKit Go.Abs
set_option linter.unusedSimpArgs false
set_option linter.unusedVariables false
set_option maxRecDepth 8000
attribute [local irreducible] StCall StYield WPc Weak IterOf Lp2

theorem fig_small {i : Nat} (h : i < 10) : fig i = [UInt8.ofNat (48 + i)] := by rw [fig, if_pos h]
end Go.Abs.Sig

/-! LH2 -/
namespace Go.Abs.Sig
open Go.RowKit Go.Abs Go.Proofs
set_option linter.unusedSimpArgs false
set_option linter.unusedVariables false
set_option maxRecDepth 8000

def rhoZ : Go.Shelf.Ren := Go.Proofs.Tryz.lays171_ren
set_option maxHeartbeats 6400000 in
set_option maxRecDepth 100000 in
theorem formatUintI_calls (u : Nat) (h1 : u < 18446744073709551616) (w : World) (htab : PowAt 0 w) :
    Calls Go.Proofs.Tryz.prog 142 #[.int .u64 u, .int .i64 10] w fun e w' => e = .returned (.string ⟨(Lib.decDigits u).toArray⟩) ∧ ∃ k os, w' = Go.Sort.grow (w.drewN k) os := by
  have L : LaysM.n246 Go.Proofs.Tryz.prog rhoZ := { Go.Proofs.Tryz.lays171 with }
  have mixed := L.mixed
  have t2 := L.t2; have a2 := L.a2; have z2 := L.z2; have v2 := L.v2
  have t3 := L.t3; have a3 := L.a3; have z3 := L.z3; have v3 := L.v3
  have t9 := L.t9; have a9 := L.a9; have z9 := L.z9; have v9 := L.v9
  have t4 := L.t4; have a4 := L.a4; have z4 := L.z4; have v4 := L.v4
  have t171 := L.t171; have a171 := L.a171; have z171 := L.z171; have v171 := L.v171
  have t0 := L.t0; have a0 := L.a0; have z0 := L.z0; have v0 := L.v0
  have t53 := L.t53; have a53 := L.a53; have z53 := L.z53; have v53 := L.v53
  have t37 := L.t37; have a37 := L.a37; have z37 := L.z37; have v37 := L.v37
  have t5 := L.t5; have a5 := L.a5; have z5 := L.z5; have v5 := L.v5
  have t173 := L.t173; have a173 := L.a173; have z173 := L.z173; have v173 := L.v173
  have e283 : ∀ args w, (callFunc 162 args).run Go.Proofs.Tryz.prog w = .ok (.enter 162 args) w := enters_of L.f283 (by kernel_rfl) rfl
  have e284 : ∀ args w, (callFunc 163 args).run Go.Proofs.Tryz.prog w = .ok (.enter 163 args) w := enters_of L.f284 (by kernel_rfl) rfl
  have e285 : ∀ args w, (callFunc 164 args).run Go.Proofs.Tryz.prog w = .ok (.enter 164 args) w := enters_of L.f285 (by kernel_rfl) rfl
  by_cases hs : u < 100
  · have iu : (u : Int) < 100 := by omega
    have hwu : IntKind.i64.wrap (u : Int) = (u : Int) := wrap_i64 (by omega) (by omega)
    go_enter Go.Proofs.Tryz.func142, Go.Proofs.Tryz.ntmps142
    go_wp2_with (go_at_fn (162 : FuncId); refine (Any.internal_strconv_small (ρ := rhoZ) { L with } u hs _).mono ?_; rintro e w' ⟨rfl, rfl⟩)
    go_ret
    exact ⟨rfl, 0, #[], by simp [World.drewN_zero]⟩
  · have hu1 : 1 ≤ u := by omega
    have iu : ¬ (u : Int) < 100 := by omega
    have hnd20 : Lib.nDigits u ≤ 20 := by have := Lib.numDigits_eq u hu1 h1; split at this <;> omega
    have hb3 : Lib.nDigits u ≤ 23 := by omega
    have hal : (Go.Proofs.Tryz.prog).arrayLen (226 : TypeId) = 24 := by simp [Program.arrayLen, L.t171]
    have hsl1 : ∀ W, (Instr.sliceAt (226 : TypeId) (.pointer (some ⟨w.heap.size, 0, none⟩)) none (some (.int .i64 (Lib.nDigits u : Int))) none).run Go.Proofs.Tryz.prog W = .ok (.slice (some ⟨w.heap.size, 0, none⟩) (Lib.nDigits u) 24) W := fun W => by
      rw [run_sliceAt_array_h W (226 : TypeId) ⟨w.heap.size, 0, none⟩ (by simp [Program.arrayLen, Program.elem, L.t171]) .i64 (Lib.nDigits u : Int) (by omega) (by rw [hal]; omega)]
      go_simp
    have hH0 := Lib.holds_zero0 w (226 : TypeId) (Lib.nDigits u) (by omega)
    have hfmt := Any.internal_strconv_formatBase10 (ρ := rhoZ) { L with } w.heap.size 0 24 u (Array.replicate (Lib.nDigits u) 0) (w.alloc (.cells Lib.zeros24 (226 : TypeId))) hH0 (by rw [Array.size_replicate]; exact Lib.lt_pow_nDigits u) h1 (by rw [Array.size_replicate]; omega)
    rw [Array.size_replicate] at hfmt
    have HH0 := Lib.hid hH0
    clear hH0 hal
    go_enter Go.Proofs.Tryz.func142, Go.Proofs.Tryz.ntmps142
    go_wp2_with (first
      | (go_at_fn (163 : FuncId); refine (numDigits_calls (ρ := rhoZ) { L with } u hu1 h1 _ (PowAt.alloc (g := 0) htab _)).mono ?_; rintro e w' ⟨rfl, rfl⟩))
    go_at_fn (164 : FuncId)
    refine hfmt.mono ?_
    rintro e w' ⟨rfl, k, v', dk, rfl, hF⟩
    have hcv : (convert (159 : TypeId) (9 : TypeId) (.slice (some ⟨w.heap.size, 0, none⟩) (Lib.nDigits u) 24)).run Go.Proofs.Tryz.prog ((Go.Sort.putRow (fun (b : UInt8) => Value.int .u8 (b.toNat : Int)) (w.alloc (.cells Lib.zeros24 (226 : TypeId))) w.heap.size 0 dk).drewN k) = .ok (.string ⟨(Lib.decDigits u).toArray⟩) ((Go.Sort.putRow (fun (b : UInt8) => Value.int .u8 (b.toNat : Int)) (w.alloc (.cells Lib.zeros24 (226 : TypeId))) w.heap.size 0 dk).drewN k) := by
      have h := run_convert_bytes_back ((Go.Sort.putRow (fun (b : UInt8) => Value.int .u8 (b.toNat : Int)) (w.alloc (.cells Lib.zeros24 (226 : TypeId))) w.heap.size 0 dk).drewN k) (159 : TypeId) (9 : TypeId) (5 : TypeId) ⟨w.heap.size, 0, none⟩ 24 (Lib.decDigits u) L.t37 L.t5 L.t9 (fun j hj => by
        rw [Lib.row_is_numeral hF j hj, Lib.add_plain, World.cell?_drewN]
        exact Go.Sort.cell?_putRow (fun (b : UInt8) => Value.int .u8 (b.toNat : Int)) _ w.heap.size 0 _ dk HH0.out (by rw [hF.size, Array.size_replicate]) j (by rw [hF.size]; rw [Lib.decDigits_length] at hj; exact hj))
      rw [Lib.decDigits_length] at h
      exact h
    go_wp2
    go_ret
    obtain ⟨os, eo⟩ := Lib.fin_at w (.cells Lib.zeros24 (226 : TypeId)) dk k 0
    exact ⟨rfl, k, os, eo⟩
end Go.Abs.Sig

/-! LH4 -/
namespace Go.Abs.Sig
open Go.RowKit Go.Abs
set_option linter.unusedSimpArgs false
set_option linter.unusedVariables false
set_option maxRecDepth 8000
attribute [local irreducible] StCall StYield WPc Weak IterOf Lp2

theorem powAt_glob {G : Nat → Option (List V)} (hG : G 0 = some powV) (H : Heap) (w : World) (e : Env) (hR : RHeap G H w e) : PowAt 0 w := by
  intro q hq
  have h := hR.glob 0 powV hG
  cases h with
  | rp cs b o u h1 h2 =>
    have h3 := powV_at hq
    have h4 := (h1 q _ h3).1
    have h5 := rep_im' (h2 q _ h3)
    rw [h5, Nat.zero_add] at h4
    exact h4
theorem decDigits_fig (n : Nat) : Lib.decDigits n = fig n := by
  induction n using Nat.strongRecOn with
  | _ n ih =>
    rw [Lib.decDigits, fig]
    split
    · rfl
    · rw [ih (n / 10) (by omega)]
theorem fuI_ct (G : Nat → Option (List V)) (hG : G 0 = some powV) (u : Nat) (h1 : u < 18446744073709551616) (H : Heap) :
    Call2 Go.Proofs.Tryz.prog G 142 [.int .u64 (u : Int), .int .i64 10] H fun r H' => H' = H ∧ r = .str (fig u) :=
  Call2.ofGrown (us := [.int .u64 (u : Int), .int .i64 10]) (v := .string ⟨(Lib.decDigits u).toArray⟩) (PowAt 0) (powAt_glob hG) ⟨_, Go.Proofs.Tryz.func142, rfl, by decide⟩
    (fun w e us h => isVals2 (.im _) (.im _) us h)
    (fun w e => by rw [decDigits_fig]; exact repF_str _ _ _) (fun w hq => formatUintI_calls u h1 w hq) H
theorem formatUint_ct (G : Nat → Option (List V)) (hG : G 0 = some powV) (u : Nat) (h1 : u < 18446744073709551616) (H : Heap) :
    Call2 Go.Proofs.Tryz.prog G 118 [.int .u64 (u : Int), .int .i64 10] H fun r H' => H' = H ∧ r = .str (fig u) := by
  refine Call2.free (fun x hx => by
    simp only [List.mem_cons, List.not_mem_nil, or_false] at hx
    rcases hx with rfl | rfl
    · exact .im _
    · exact .im _) ?_ H
  have hf := fuI_ct G hG u h1
  generalize fig u = s at hf ⊢
  refine stCall2 Go.Proofs.Tryz.func118 rfl (by decide) ?_
  conv => whnf
  refine Call2.mono (hf _) fun r0 H0 h => ?_
  obtain ⟨h1, h2⟩ := h
  rw [h1, h2]
  clear h1 h2 r0 H0
  conv => whnf
  exact ⟨.str _, rfl⟩
theorem itoa_ct (G : Nat → Option (List V)) (hG : G 0 = some powV) (n : Int) (h0 : 0 ≤ n) (h1 : n < 9223372036854775808) (H : Heap) :
    Call2 Go.Proofs.Tryz.prog G 143 [.int .i64 n] H fun r H' => H' = H ∧ r = .str (fig n.toNat) :=
  Call2.ofGrown (us := [.int .i64 n]) (v := .string ⟨(Lib.itoa n).toArray⟩) (PowAt 0) (powAt_glob hG) ⟨_, Go.Proofs.Tryz.func143, rfl, by decide⟩
    (fun w e us h => isVals_of (vs := [.int .i64 n]) rfl (fun i a b ha hb => by
      match i with
      | 0 => simp at ha hb; subst ha; subst hb; exact .im _
      | i + 1 => simp at ha) h)
    (fun w e => by
      have : Lib.itoa n = fig n.toNat := by unfold Lib.itoa; rw [if_neg (by omega), decDigits_fig]
      rw [this]; exact repF_str _ _ _) (fun w hq => itoa_calls (ρ := rhoZ) { Go.Proofs.Tryz.lays171 with } n h0 (by omega) w hq) H
end Go.Abs.Sig

/-! LK5 -/
namespace Go.Abs.Sig
open Go.RowKit Go.Abs
set_option linter.unusedSimpArgs false
set_option linter.unusedVariables false
set_option maxRecDepth 8000
attribute [local irreducible] StCall StYield WPc Weak IterOf Lp2

/-- A name that isn't there is put behind the others. -/
def nmPut (n k : NamesL) (m : List UInt8) (free : Bool) : NamesL × Nm × Int :=
  if (upL n.who m).2 ≠ 0 then (n, nm0, (upL n.who m).2) else if (upL n.who m).1 = [] then (n, nm0, (upL n.who m).2) else ({ k with l := k.l ++ [(m, (upL n.who m).1, free)] }, (m, (upL n.who m).1, free), 0)
def nmAdd (n : NamesL) (mine : List UInt8) (free : Bool) (most : Int) : NamesL × Nm × Int :=
  if most ≤ (n.l.length : Int) then (n, nm0, 12)
  else if mine = [] then nmPut n { n with made := (madeL n.l (n.l.length + 1) n.made).2 } (madeL n.l (n.l.length + 1) n.made).1 free
  else if (toL n.l mine).2 = true then (n, nm0, 14)
  else nmPut n n mine free

theorem addR_free (n : NamesL) (x : Nm) (e : Int) : (V.tup [.agg (namesC n), .agg (nmcells x), .int .i64 e]).Free := .tup _ (by
  intro v hv
  simp only [List.mem_cons, List.not_mem_nil, or_false] at hv
  rcases hv with rfl | rfl | rfl
  · exact .agg _ (namesC_free' _)
  · exact .agg _ (nmcells_free' _)
  · exact .im _)
def addS (who made : Int) (l : List Nm) (free : Bool) (tx : Nm) (mj : Int) : S2 := headS 92 ([.bad, .bad, .bool free, .bad, .ptr 0 0, .bad, .bad, .bad, .ptr 1 0, .ptr 2 0, .bad, .ptr 3 0] ++ List.replicate 80 .bad)
  [some (.cells 31 (namesC ⟨who, made, l⟩)), some (.cells 31 [.int .i64 0, .int .u64 0, .dat 0 [] .tight]), some (.cells 85 [.str [], .str [], .bool false]), some (.cells 31 (namesC ⟨who, mj, l⟩)), some (.cells 85 (nmcells tx))] [] none
theorem addS_bw (n : Nat) (who made mj : Int) (l : List Nm) (tx : Nm) (X : Heap) : BWs n ([some (.cells 31 (namesC ⟨who, made, l⟩)), some (.cells 31 [.int .i64 0, .int .u64 0, .dat 0 [] .tight]), some (.cells 85 [.str [], .str [], .bool false]), some (.cells 31 (namesC ⟨who, mj, l⟩)), some (.cells 85 (nmcells tx))] ++ X)
    [some (.cells 31 (namesC ⟨who, made, l⟩)), some (.cells 31 [.int .i64 0, .int .u64 0, .dat 0 [] .tight]), some (.cells 85 [.str [], .str [], .bool false]), some (.cells 31 (namesC ⟨who, mj, l⟩)), some (.cells 85 (nmcells tx))] := by
  refine .cons (BW.free (namesC_free' _)) (.cons (.cells _ _ _ (.cons (.im _) (.cons (.im _) (.cons (.dat _ _ _) .nil)))) (.cons (BW.free (nmcells_free' ([], [], false))) (.cons (BW.free (namesC_free' _)) (.cons (BW.free (nmcells_free' _)) (.nil _)))))
theorem add_ct (G : Nat → Option (List V)) (hG0 : G 0 = some powV) (hG1 : G 1 = some wV) (n : NamesL) (mine : List UInt8) (free : Bool) (most : Int) (hw : n.who < 9223372036854775808) (hm0 : 0 ≤ n.made) (hm1 : n.made < 18446744073709551616)
    (hl : (n.l.length + 1) * 40 ≤ maxBytes) (hmine : mine.length ≤ maxBytes) (H : Heap) :
    Call2 Go.Proofs.Tryz.prog G 84 [.agg (namesC n), .str mine, .bool free, .int .i64 most] H fun r H' => H' = H ∧ r = .tup [.agg (namesC (nmAdd n mine free most).1), .agg (nmcells (nmAdd n mine free most).2.1), .int .i64 (nmAdd n mine free most).2.2] := by
  refine Call2.free (fun x hx => by
    simp only [List.mem_cons, List.not_mem_nil, or_false] at hx
    rcases hx with rfl | rfl | rfl | rfl
    · exact .agg _ (namesC_free' _)
    · exact .str _
    · exact .im _
    · exact .im _) ?_ H
  have hmb : maxBytes = 140737488355328 := rfl
  have hmx : maxLen = 9223372036854775807 := rfl
  refine Call2.weakR ?_
  have hto := fun s => to_ct G n s (by omega)
  unfold nmAdd
  obtain ⟨who, made, l⟩ := n
  have hvl : (nmR l).length = l.length := by simp [nmR]
  simp only at hw hm0 hm1 hl hto ⊢
  refine stCall2 Go.Proofs.Tryz.func84 rfl (by decide) ?_
  conv => whnf
  refine Call2.mono (hto mine _) fun r0 H0 h => ?_
  obtain ⟨h1, h2⟩ := h
  rw [h1, h2]
  clear h1 h2 r0 H0
  generalize htm : toL l mine = tm
  obtain ⟨tx, tis⟩ := tm
  conv => whnf
  rw [show (nmR (⟨who, made, l⟩ : NamesL).l).length = l.length from hvl]
  by_cases hfull : most ≤ (l.length : Int)
  · refine br_t (decide_eq_true hfull) ?_
    rw [if_pos hfull]
    conv => whnf
    exact ⟨_, .free (addR_free ⟨who, made, l⟩ nm0 12), addR_free ⟨who, made, l⟩ nm0 12, rfl⟩
  refine br_f (decide_eq_false hfull) ?_
  rw [if_neg hfull]
  conv => whnf
  by_cases hmn : mine = []
  · refine br_t (show decide (mine = []) = true from decide_eq_true hmn) ?_
    rw [if_pos hmn]
    conv => whnf
    clear htm
    intro hws
    refine wpc_scope2 hws ?_
    conv => whnf
    intro hwl
    refine wpc_loop2 (fun n1 s1 => ∃ j : Nat, j ≤ l.length ∧ n1 = l.length - j ∧ s1 = addS who made l free tx (madeAt made j) ∧ ∀ i, i < j → (toL l (amqS (madeAt made i))).2 = true) l.length (addS who made l free tx (madeAt made 0)) ?_ ⟨0, by omega, rfl, rfl, fun i hi => by omega⟩ ?_ ?_
    · refine weak2 hwl rfl ⟨.im _, .ptr 0 0 (Nat.le_of_ble_eq_true rfl), .ptr 1 0 (Nat.le_of_ble_eq_true rfl), .ptr 2 0 (Nat.le_of_ble_eq_true rfl), .ptr 3 0 (Nat.le_of_ble_eq_true rfl), trivial⟩ ?_ (fun id hid => by cases hid) rfl (fun id hid => by cases hid)
      rw [madeAt_zero hm0 hm1]
      exact addS_bw _ _ _ _ _ _ _
    · rintro n1 s1 ⟨j, _, _, rfl, _⟩
      exact ⟨⟨Nat.le_refl 92, fun x hx => by cases hx⟩, rfl, Nat.le_of_ble_eq_true rfl, rfl⟩
    rintro n1 s1 ⟨j, hj, rfl, rfl, hinv⟩
    have hstep := madeL_step hm0 hm1 j hj hinv
    have hsj : l.length + 1 - j = (l.length - j) + 1 := by omega
    rw [hsj] at hstep
    replace hstep := hstep.trans (show madeL l (l.length - j + 1) (madeAt made j) = if (toL l (amqS (madeAt made j))).2 = true then madeL l (l.length - j) (IntKind.u64.wrap (madeAt made j + 1)) else (amqS (madeAt made j), IntKind.u64.wrap (madeAt made j + 1)) from rfl)
    have hr := madeAt_rng made j
    have hto2 := hto (amqS (madeAt made j))
    have hwr := madeAt_succ made j
    have hnext : (toL l (amqS (madeAt made j))).2 = true → ∀ i, i < j + 1 → (toL l (amqS (madeAt made i))).2 = true := fun h i hi => by
      by_cases hij : i = j
      · rw [hij]; exact h
      · exact hinv i (by omega)
    have hlt : (toL l (amqS (madeAt made j))).2 = true → j < l.length := fun h => by
      rcases Nat.lt_or_ge j l.length with h1 | h1
      · exact h1
      · have : j = l.length := by omega
        subst this
        exact absurd (made_free l made (by omega) (hnext h)) id
    generalize hmj1 : madeAt made (j + 1) = mj1 at hwr
    generalize madeAt made j = mj at *
    obtain ⟨u, rfl⟩ : ∃ u : Nat, mj = (u : Int) := ⟨mj.toNat, by omega⟩
    have hfu := formatUint_ct G hG0 u (by omega)
    have hfl := fig_len 19 u (by omega)
    have hamq : amqS (u : Int) = [97, 109, 113, 46, 99] ++ fig u := by unfold amqS; rw [Int.toNat_natCast]
    conv => whnf
    refine Call2.mono (hfu _) fun r0 H0 h => ?_
    obtain ⟨h1, h2⟩ := h
    rw [h1, h2]
    clear h1 h2 r0 H0
    conv => whnf
    refine ⟨?_, ?_⟩
    · show ((5 + (fig u).length : Nat) : Int) ≤ 9223372036854775807
      omega
    rw [show ({ data := #[97, 109, 113, 46, 99] } : ByteArray).data.toList ++ fig u = amqS (u : Int) from hamq.symm]
    have hml : (amqS (u : Int)).length ≤ maxBytes := by
      rw [hamq, List.length_append]
      show 5 + (fig u).length ≤ maxBytes
      omega
    clear hamq
    generalize amqS (u : Int) = m at *
    conv => whnf
    refine Call2.mono (hto2 _) fun r0 H0 h => ?_
    obtain ⟨h1, h2⟩ := h
    rw [h1, h2]
    clear h1 h2 r0 H0 hto2
    generalize toL l m = tm2 at hstep hnext hlt
    obtain ⟨tx2, tis2⟩ := tm2
    conv => whnf
    cases tis2
    · rw [hstep, if_neg (show ¬ (tx2, false).2 = true by simp)]
      conv => whnf
      have hup := nup_ct G hG1 who hw (fun h => itoa_ct G hG0 who (by omega) hw) m hml
      simp only
      refine Call2.mono (hup _) fun r0 H0 h => ?_
      obtain ⟨h1, h2⟩ := h
      rw [h1, h2]
      clear h1 h2 r0 H0
      unfold nmPut
      simp only
      generalize upL who m = u
      obtain ⟨us, ue⟩ := u
      simp only
      conv => whnf
      by_cases hu : ue ≠ 0
      · refine br_t (show decide (ue ≠ 0) = true from decide_eq_true hu) ?_
        rw [if_pos hu]
        conv => whnf
        exact ⟨_, .free (addR_free ⟨who, made, l⟩ nm0 ue), addR_free ⟨who, made, l⟩ nm0 ue, rfl⟩
      refine br_f (show decide (ue ≠ 0) = false from decide_eq_false hu) ?_
      rw [if_neg hu]
      conv => whnf
      by_cases hs : us = []
      · refine br_t (show decide (us = []) = true from decide_eq_true hs) ?_
        rw [if_pos hs]
        conv => whnf
        exact ⟨_, .free (addR_free ⟨who, made, l⟩ nm0 ue), addR_free ⟨who, made, l⟩ nm0 ue, rfl⟩
      refine br_f (show decide (us = []) = false from decide_eq_false hs) ?_
      rw [if_neg hs]
      conv => whnf
      intro hww
      refine wpc_draw2 11 (by rfl) (by decide) (by decide) hww ?_
      conv => whnf
      refine ⟨⟨.inr rfl, Int.le_refl _, Int.natCast_nonneg _, rfl, Int.le_refl _⟩, ?_⟩
      conv => whnf
      rw [full_slice]
      conv => whnf
      refine ⟨.inr rfl, .inr rfl, ?_, ?_, ?_, ?_⟩
      · intro r hr
        obtain rfl := List.mem_singleton.1 hr
        rfl
      · show ((nmR l).length + 1) * 40 ≤ maxBytes
        rw [hvl]; exact hl
      · show (nmR l).length + 1 ≤ maxBytes
        rw [hvl]; omega
      conv => whnf
      intro hww2
      refine wpc_drawG2 [2, 3] [] [(1, 2)] (by rfl) (by decide) (by decide) hww2 ?_
      conv => whnf
      have hv2 : ∀ (n : Nat) (mk : Int), VW n (.tup [.agg [.int .i64 who, .int .u64 mk, .dat 3 (nmR l ++ [nmcells (m, us, free)]) .no], .agg (nmcells (m, us, free)), .int .i64 0]) (.tup [.agg (namesC ⟨who, mk, l ++ [(m, us, free)]⟩), .agg (nmcells (m, us, free)), .int .i64 0]) := fun n mk => by
        have hg2 : nmR (l ++ [(m, us, free)]) = nmR l ++ [nmcells (m, us, free)] := by simp [nmR]
        refine VW.tupL (.cons (VW.aggL (.cons (.im _) (.cons (.im _) (.cons ?_ .nil)))) (.cons (.free (.agg _ (nmcells_free' _))) (.cons (.im _) .nil)))
        show VW n _ (.dat 3 (nmR (l ++ [(m, us, free)])) .no)
        rw [hg2]
        exact .no _ _ _
      exact ⟨_, hv2 _ _, addR_free _ _ _, rfl⟩
    · have hjl := hlt rfl
      subst hwr
      conv => whnf
      intro hw2
      refine ⟨l.length - (j + 1), addS who made l free tx (IntKind.u64.wrap ((u : Int) + 1)), by omega, ?_, j + 1, by omega, rfl, ?_, hnext rfl⟩
      · refine weak2 hw2 rfl ⟨.im _, .ptr 0 0 (Nat.le_of_ble_eq_true rfl), .ptr 1 0 (Nat.le_of_ble_eq_true rfl), .ptr 2 0 (Nat.le_of_ble_eq_true rfl), .ptr 3 0 (Nat.le_of_ble_eq_true rfl), trivial⟩ ?_ (fun id hid => by cases hid) rfl (fun id hid => by cases hid)
        exact addS_bw 5 who made (IntKind.u64.wrap ((u : Int) + 1)) l tx [_]
      · rw [hmj1]
  refine br_f (show decide (mine = []) = false from decide_eq_false hmn) ?_
  rw [if_neg hmn]
  conv => whnf
  cases tis
  · rw [if_neg (show ¬ (tx, false).2 = true by simp)]
    conv => whnf
    have hup := nup_ct G hG1 who hw (fun h => itoa_ct G hG0 who (by omega) hw) mine hmine
    generalize mine = m at *
    refine Call2.mono (hup _) fun r0 H0 h => ?_
    obtain ⟨h1, h2⟩ := h
    rw [h1, h2]
    clear h1 h2 r0 H0
    unfold nmPut
    simp only
    generalize upL who m = u
    obtain ⟨us, ue⟩ := u
    simp only
    conv => whnf
    by_cases hu : ue ≠ 0
    · refine br_t (show decide (ue ≠ 0) = true from decide_eq_true hu) ?_
      rw [if_pos hu]
      conv => whnf
      exact ⟨_, .free (addR_free ⟨who, made, l⟩ nm0 ue), addR_free ⟨who, made, l⟩ nm0 ue, rfl⟩
    refine br_f (show decide (ue ≠ 0) = false from decide_eq_false hu) ?_
    rw [if_neg hu]
    conv => whnf
    by_cases hs : us = []
    · refine br_t (show decide (us = []) = true from decide_eq_true hs) ?_
      rw [if_pos hs]
      conv => whnf
      exact ⟨_, .free (addR_free ⟨who, made, l⟩ nm0 ue), addR_free ⟨who, made, l⟩ nm0 ue, rfl⟩
    refine br_f (show decide (us = []) = false from decide_eq_false hs) ?_
    rw [if_neg hs]
    conv => whnf
    intro hww
    refine wpc_draw2 11 (by rfl) (by decide) (by decide) hww ?_
    conv => whnf
    refine ⟨⟨.inr rfl, Int.le_refl _, Int.natCast_nonneg _, rfl, Int.le_refl _⟩, ?_⟩
    conv => whnf
    rw [full_slice]
    conv => whnf
    refine ⟨.inr rfl, .inr rfl, ?_, ?_, ?_, ?_⟩
    · intro r hr
      obtain rfl := List.mem_singleton.1 hr
      rfl
    · show ((nmR l).length + 1) * 40 ≤ maxBytes
      rw [hvl]; exact hl
    · show (nmR l).length + 1 ≤ maxBytes
      rw [hvl]; omega
    conv => whnf
    intro hww2
    refine wpc_drawG2 [2, 3] [] [(1, 2)] (by rfl) (by decide) (by decide) hww2 ?_
    conv => whnf
    have hv2 : ∀ (n : Nat) (mk : Int), VW n (.tup [.agg [.int .i64 who, .int .u64 mk, .dat 3 (nmR l ++ [nmcells (m, us, free)]) .no], .agg (nmcells (m, us, free)), .int .i64 0]) (.tup [.agg (namesC ⟨who, mk, l ++ [(m, us, free)]⟩), .agg (nmcells (m, us, free)), .int .i64 0]) := fun n mk => by
      have hg2 : nmR (l ++ [(m, us, free)]) = nmR l ++ [nmcells (m, us, free)] := by simp [nmR]
      refine VW.tupL (.cons (VW.aggL (.cons (.im _) (.cons (.im _) (.cons ?_ .nil)))) (.cons (.free (.agg _ (nmcells_free' _))) (.cons (.im _) .nil)))
      show VW n _ (.dat 3 (nmR (l ++ [(m, us, free)])) .no)
      rw [hg2]
      exact .no _ _ _
    exact ⟨_, hv2 _ _, addR_free _ _ _, rfl⟩
  · rw [if_pos (show (tx, true).2 = true from rfl)]
    conv => whnf
    exact ⟨_, .free (addR_free ⟨who, made, l⟩ nm0 14), addR_free ⟨who, made, l⟩ nm0 14, rfl⟩
end Go.Abs.Sig

/-! LC1 -/
namespace Go.Abs.Sig
open Go.RowKit Go.Abs
set_option linter.unusedSimpArgs false
set_option linter.unusedVariables false
set_option maxRecDepth 8000
attribute [local irreducible] StCall StYield WPc Weak IterOf Lp2

/-! tags: the place of a number -/
def tgcells (x : Int × Int) : List V := [.int .u64 x.1, .int .u64 x.2]
theorem tgcells_free' (x : Int × Int) : ∀ v ∈ tgcells x, v.Free := by
  intro v hv
  simp only [tgcells, List.mem_cons, List.not_mem_nil, or_false] at hv
  rcases hv with rfl | rfl
  · exact .im _
  · exact .im _
def cmpI (x n : Int) : Int := if x < n then -1 else if n < x then 1 else 0
theorem place1_ct (G : Nat → Option (List V)) (x : Int × Int) (n : Int) (H : Heap) : Call2 Go.Proofs.Tryz.prog G 169 [.agg (tgcells x), .int .u64 n] H fun r H' => H' = H ∧ r = .int .i64 (cmpI x.1 n) := by
  refine Call2.free (fun y hy => by
    simp only [List.mem_cons, List.not_mem_nil, or_false] at hy
    rcases hy with rfl | rfl
    · exact .agg _ (tgcells_free' _)
    · exact .im _) ?_ H
  unfold cmpI
  by_cases h1 : x.1 < n
  · rw [if_pos h1]
    refine stCall2 Go.Proofs.Tryz.func169 rfl (by decide) ?_
    conv => whnf
    refine br_t (decide_eq_true h1) ?_
    conv => whnf
    exact ⟨.im _, rfl⟩
  · rw [if_neg h1]
    refine stCall2 Go.Proofs.Tryz.func169 rfl (by decide) ?_
    conv => whnf
    refine br_f (decide_eq_false h1) ?_
    conv => whnf
    by_cases h2 : n < x.1
    · rw [if_pos h2]
      refine br_t (decide_eq_true h2) ?_
      conv => whnf
      exact ⟨.im _, rfl⟩
    · rw [if_neg h2]
      refine br_f (decide_eq_false h2) ?_
      conv => whnf
      exact ⟨.im _, rfl⟩

def cntL (l : List (Int × Int)) (m : Int) : Nat := l.countP fun x => decide (x.1 < m)
theorem cntL_at (m : Int) : ∀ (l : List (Int × Int)) (i : Nat), i ≤ l.length → (∀ t (h : t < l.length), t < i → l[t].1 < m) → (∀ t (h : t < l.length), i ≤ t → ¬l[t].1 < m) → cntL l m = i
  | [], i, hi, _, _ => by simp at hi; simp [cntL, hi]
  | a :: r, 0, _, _, h2 => by
    unfold cntL
    rw [List.countP_eq_zero]
    intro x hx
    obtain ⟨t, ht, rfl⟩ := List.getElem_of_mem hx
    have := h2 t ht (Nat.zero_le _)
    simpa using this
  | a :: r, i + 1, hi, h1, h2 => by
    have ha : a.1 < m := h1 0 (by simp) (by omega)
    have ih := cntL_at m r i (by simpa using hi) (fun t h3 h4 => h1 (t + 1) (by simpa using h3) (by omega)) (fun t h3 h4 => h2 (t + 1) (by simpa using h3) (by omega))
    unfold cntL at ih ⊢
    rw [List.countP_cons_of_pos (by simpa using ha), ih]
def Rising (l : List (Int × Int)) : Prop := ∀ a b (hb : b < l.length) (hab : a < b), (l[a]'(by omega)).1 < l[b].1
def bsS (l : List (Int × Int)) (m : Int) (i j : Nat) : S2 := headS 49 ([.dat 2 (tagR l) .no, .int .u64 m, .fn (.func 169) [] [], .bad, .bad, .bad, .bad, .bad, .int .i64 (l.length : Int), .int .i64 (i : Int), .int .i64 (j : Int)] ++ List.replicate 38 .bad) [] [] none
def plL (l : List (Int × Int)) (m : Int) : Bool := match l[cntL l m]? with
  | some x => decide (x.1 = m)
  | none => false
theorem bsearch_ct (G : Nat → Option (List V)) (l : List (Int × Int)) (m : Int) (hl : l.length ≤ maxBytes) (hr : Rising l) (H : Heap) :
    Call2 Go.Proofs.Tryz.prog G 168 [.dat 2 (tagR l) .no, .int .u64 m, .fn (.func 169) [] []] H fun r H' => H' = H ∧ r = .tup [.int .i64 (cntL l m : Int), .bool (plL l m)] := by
  refine Call2.free (fun y hy => by
    simp only [List.mem_cons, List.not_mem_nil, or_false] at hy
    rcases hy with rfl | rfl | rfl
    · exact .dat _ _ _ (by simp)
    · exact .im _
    · exact .fn _ _ _ (by simp) (by simp)) ?_ H
  have hmb : maxBytes = 140737488355328 := rfl
  have hvl : (tagR l).length = l.length := by simp [tagR]
  refine stCall2 Go.Proofs.Tryz.func168 rfl (by decide) ?_
  conv => whnf
  rw [hvl]
  intro hw
  refine wpc_loop2 (fun n1 s1 => ∃ i j : Nat, i ≤ j ∧ j ≤ l.length ∧ n1 = j - i ∧ s1 = bsS l m i j ∧ (∀ t (h : t < l.length), t < i → l[t].1 < m) ∧ (∀ t (h : t < l.length), j ≤ t → ¬l[t].1 < m)) l.length (bsS l m 0 l.length) ?_
    ⟨0, l.length, by omega, by omega, rfl, rfl, fun t h h2 => by omega, fun t h h2 => by omega⟩ ?_ ?_
  · exact weak2 hw rfl ⟨.dat _ _ _, .im _, .fn _ _ _ (fun i v h => by simp at h) (fun i v h => by simp at h), .im _, .im _, .im _, trivial⟩ (.nil _) (fun id hid => by cases hid) rfl (fun id hid => by cases hid)
  · rintro n1 s1 ⟨i, j, _, _, _, rfl, _⟩
    exact ⟨⟨Nat.le_refl 49, fun x hx => by cases hx⟩, rfl, Nat.le_refl _, rfl⟩
  rintro n1 s1 ⟨i, j, hij, hj, rfl, rfl, hlo, hhi⟩
  by_cases hlt : i < j
  · conv => whnf
    refine br_t (decide_eq_true (by omega)) ?_
    conv => whnf
    refine ⟨by decide, ?_⟩
    have hh : IntKind.i64.wrap ((IntKind.u64.wrap (IntKind.i64.wrap ((i : Int) + (j : Int)))).fdiv (2 ^ min (Int.toNat 1) IntKind.u64.bits)) = (((i + j) / 2 : Nat) : Int) := by
      have e1 : IntKind.i64.wrap ((i : Int) + (j : Int)) = (i : Int) + (j : Int) := wrap_i64 (by omega) (by omega)
      have e2 : IntKind.u64.wrap ((i : Int) + (j : Int)) = (i : Int) + (j : Int) := wrap_u64 (by omega) (by omega)
      have e3 : (2 : Int) ^ min (Int.toNat 1) IntKind.u64.bits = 2 := rfl
      rw [e1, e2, e3, Int.fdiv_eq_ediv_of_nonneg _ (by omega), wrap_i64 (by omega) (by omega)]
      omega
    conv => whnf
    rw [hh]
    have h1 : i ≤ (i + j) / 2 := by omega
    have h2 : (i + j) / 2 < j := by omega
    clear hh
    generalize (i + j) / 2 = k at h1 h2 ⊢
    have hkl : k < l.length := by omega
    have hd0 : (true && true && decide ((0 : Int) ≤ (k : Int))) = true := by simp
    have hg1 : (tagR l)[Int.toNat (k : Int)]? = some (tgcells l[k]) := rowGet _ l k hkl
    refine grd_intro hd0 (optK_intro hg1 ?_)
    conv => whnf
    refine Call2.mono (place1_ct G l[k] m _) fun r0 H0 h => ?_
    obtain ⟨h1, h2⟩ := h
    rw [h1, h2]
    clear h1 h2 r0 H0
    conv => whnf
    have hwk : IntKind.i64.wrap ((k : Int) + 1) = ((k + 1 : Nat) : Int) := by rw [wrap_i64 (by omega) (by omega)]; rfl
    have hc : decide (cmpI l[k].1 m < 0) = decide (l[k].1 < m) := by
      unfold cmpI
      by_cases h1 : l[k].1 < m
      · rw [if_pos h1, decide_eq_true h1]; rfl
      · rw [if_neg h1, decide_eq_false h1]
        by_cases h2 : m < l[k].1
        · rw [if_pos h2]; rfl
        · rw [if_neg h2]; rfl
    rw [hc]
    refine br_intro (fun c1 => ?_) (fun c1 => ?_)
    · have d1 : l[k].1 < m := of_decide_eq_true c1
      conv => whnf
      intro hw2
      refine ⟨j - (k + 1), bsS l m (k + 1) j, by omega, ?_, k + 1, j, by omega, hj, rfl, rfl, fun t h h3 => ?_, hhi⟩
      · exact weak2 hw2 rfl ⟨.dat _ _ _, .im _, .fn _ _ _ (fun i v h => by simp at h) (fun i v h => by simp at h), .im _, .int hwk, .im _, trivial⟩ (.nil _) (fun id hid => by cases hid) rfl (fun id hid => by cases hid)
      · by_cases htk : t = k
        · subst htk; exact d1
        · have := hr t k hkl (by omega)
          omega
    · have d1 : ¬l[k].1 < m := of_decide_eq_false c1
      conv => whnf
      intro hw2
      refine ⟨k - i, bsS l m i k, by omega, ?_, i, k, by omega, by omega, rfl, rfl, hlo, fun t h h3 => ?_⟩
      · exact weak2 hw2 rfl ⟨.dat _ _ _, .im _, .fn _ _ _ (fun i v h => by simp at h) (fun i v h => by simp at h), .im _, .im _, .im _, trivial⟩ (.nil _) (fun id hid => by cases hid) rfl (fun id hid => by cases hid)
      · by_cases htk : t = k
        · subst htk; exact d1
        · have := hr k t h (by omega)
          omega
  · conv => whnf
    refine br_f (decide_eq_false (by omega)) ?_
    conv => whnf
    have hije : i = j := by omega
    have hcnt : cntL l m = i := cntL_at m l i (by omega) hlo (fun t h h3 => hhi t h (by omega))
    have hfr : ∀ b : Bool, (V.tup [.int .i64 (i : Int), .bool b]).Free := fun b => .tup _ (by
      intro v hv
      simp only [List.mem_cons, List.not_mem_nil, or_false] at hv
      rcases hv with rfl | rfl
      · exact .im _
      · exact .im _)
    unfold plL
    rw [hcnt]
    by_cases hil : i < l.length
    · refine br_t (decide_eq_true (by omega)) ?_
      have hd0 : (true && true && decide ((0 : Int) ≤ (i : Int))) = true := by simp
      have hg1 : (tagR l)[Int.toNat (i : Int)]? = some (tgcells l[i]) := rowGet _ l i hil
      conv => whnf
      refine optK_intro hg1 ?_
      conv => whnf
      refine Call2.mono (place1_ct G l[i] m _) fun r0 H0 h => ?_
      obtain ⟨h1, h2⟩ := h
      rw [h1, h2]
      clear h1 h2 r0 H0
      conv => whnf
      refine ⟨hfr _, ?_⟩
      rw [List.getElem?_eq_getElem hil]
      have hnl : ¬l[i].1 < m := hhi i hil (by omega)
      have hc : decide (cmpI l[i].1 m = 0) = decide (l[i].1 = m) := by
        unfold cmpI
        rw [if_neg hnl]
        by_cases h2 : m < l[i].1
        · rw [if_pos h2, decide_eq_false (show ¬l[i].1 = m by omega)]; rfl
        · rw [if_neg h2, decide_eq_true (show l[i].1 = m by omega)]; rfl
      show V.tup [.int .i64 (i : Int), .bool (decide (cmpI l[i].1 m = 0))] = _
      rw [hc]
    · refine br_f (decide_eq_false (by omega)) ?_
      conv => whnf
      refine ⟨hfr _, ?_⟩
      rw [List.getElem?_eq_none (by omega)]
      rfl
theorem place_ct (G : Nat → Option (List V)) (t : TagsL) (m : Int) (hl : t.l.length ≤ maxBytes) (hr : Rising t.l) (H : Heap) :
    Call2 Go.Proofs.Tryz.prog G 147 [.agg (tagsC t), .int .u64 m] H fun r H' => H' = H ∧ r = .tup [.int .i64 (cntL t.l m : Int), .bool (plL t.l m)] := by
  refine Call2.free (fun y hy => by
    simp only [List.mem_cons, List.not_mem_nil, or_false] at hy
    rcases hy with rfl | rfl
    · exact .agg _ (tagsC_free' _)
    · exact .im _) ?_ H
  have hb := bsearch_ct G t.l m hl hr
  generalize plL t.l m = b at hb ⊢
  generalize cntL t.l m = i at hb ⊢
  have hfr : (V.tup [.int .i64 (i : Int), .bool b]).Free := .tup _ (by
    intro v hv
    simp only [List.mem_cons, List.not_mem_nil, or_false] at hv
    rcases hv with rfl | rfl
    · exact .im _
    · exact .im _)
  refine stCall2 Go.Proofs.Tryz.func147 rfl (by decide) ?_
  conv => whnf
  refine Call2.mono (hb _) fun r0 H0 h => ?_
  obtain ⟨h1, h2⟩ := h
  rw [h1, h2]
  clear h1 h2 r0 H0
  conv => whnf
  exact ⟨hfr, rfl⟩
end Go.Abs.Sig

/-! LC2 -/
namespace Go.Abs.Sig
open Go.RowKit Go.Abs
set_option linter.unusedSimpArgs false
set_option linter.unusedVariables false
set_option maxRecDepth 8000
attribute [local irreducible] StCall StYield WPc Weak IterOf Lp2

def delL (s : TagsL) (up most : Int) : TagsL × Int × Int :=
  if up ≤ s.la then (s, 0, 16)
  else if s.nx = 18446744073709551615 then (s, 0, 15)
  else if most ≤ (s.l.length : Int) then (s, 0, 12)
  else (⟨IntKind.u64.wrap (s.nx + 1), up, s.l ++ [(s.nx, up)]⟩, s.nx, 0)

theorem tagR_app (l : List (Int × Int)) (x : Int × Int) : tagR (l ++ [x]) = tagR l ++ [tgcells x] := by simp [tagR, tgcells]
theorem deliver_ct (G : Nat → Option (List V)) (s : TagsL) (up most : Int) (hl : (s.l.length + 1) * 16 ≤ maxBytes) (H : Heap) :
    Call2 Go.Proofs.Tryz.prog G 129 [.agg (tagsC s), .int .u64 up, .int .i64 most] H fun r H' => H' = H ∧ r = .tup [.agg (tagsC (delL s up most).1), .int .u64 (delL s up most).2.1, .int .i64 (delL s up most).2.2] := by
  refine Call2.free (fun x hx => by
    simp only [List.mem_cons, List.not_mem_nil, or_false] at hx
    rcases hx with rfl | rfl | rfl
    · exact .agg _ (tagsC_free' _)
    · exact .im _
    · exact .im _) ?_ H
  have fr : ∀ s' (n e : Int), (V.tup [.agg (tagsC s'), .int .u64 n, .int .i64 e]).Free := fun s' n e => .tup _ (by
    intro v hv
    simp only [List.mem_cons, List.not_mem_nil, or_false] at hv
    rcases hv with rfl | rfl | rfl
    · exact .agg _ (tagsC_free' _)
    · exact .im _
    · exact .im _)
  refine Call2.weakR ?_
  obtain ⟨nx, la, l⟩ := s
  have hvl : (tagR l).length = l.length := by simp [tagR]
  refine stCall2 Go.Proofs.Tryz.func129 rfl (by decide) ?_
  conv => whnf
  by_cases h0 : up ≤ la
  · refine br_t (decide_eq_true h0) ?_
    have e1 : delL ⟨nx, la, l⟩ up most = (⟨nx, la, l⟩, 0, 16) := by unfold delL; rw [if_pos h0]
    rw [e1]
    conv => whnf
    exact ⟨_, .free (fr _ _ _), fr ⟨nx, la, l⟩ 0 16, rfl⟩
  refine br_f (decide_eq_false h0) ?_
  conv => whnf
  by_cases h1 : nx = 18446744073709551615
  · refine br_t (decide_eq_true h1) ?_
    have e1 : delL ⟨nx, la, l⟩ up most = (⟨nx, la, l⟩, 0, 15) := by unfold delL; rw [if_neg h0, if_pos h1]
    rw [e1]
    conv => whnf
    exact ⟨_, .free (fr _ _ _), fr ⟨nx, la, l⟩ 0 15, rfl⟩
  refine br_f (decide_eq_false h1) ?_
  conv => whnf
  rw [hvl]
  by_cases h2 : most ≤ (l.length : Int)
  · refine br_t (decide_eq_true h2) ?_
    have e1 : delL ⟨nx, la, l⟩ up most = (⟨nx, la, l⟩, 0, 12) := by unfold delL; rw [if_neg h0, if_neg h1, if_pos h2]
    rw [e1]
    conv => whnf
    exact ⟨_, .free (fr _ _ _), fr ⟨nx, la, l⟩ 0 12, rfl⟩
  refine br_f (decide_eq_false h2) ?_
  have e1 : delL ⟨nx, la, l⟩ up most = (⟨IntKind.u64.wrap (nx + 1), up, l ++ [(nx, up)]⟩, nx, 0) := by unfold delL; rw [if_neg h0, if_neg h1, if_neg h2]
  rw [e1]
  conv => whnf
  refine ⟨⟨.inr rfl, Int.le_refl _, Int.natCast_nonneg _, rfl, Int.le_refl _⟩, ?_⟩
  conv => whnf
  rw [full_slice]
  refine ⟨?_, .inr rfl, ?_, ?_, ?_, ?_⟩
  · exact .inr rfl
  · intro r hr
    obtain rfl := List.mem_singleton.1 hr
    rfl
  · show ((tagR l).length + 1) * 16 ≤ maxBytes
    rw [hvl]; exact hl
  · show (tagR l).length + 1 ≤ maxBytes
    rw [hvl]
    have : (l.length + 1) * 16 ≤ maxBytes := hl
    omega
  conv => whnf
  refine ⟨_, ?_, fr ⟨IntKind.u64.wrap (nx + 1), up, l ++ [(nx, up)]⟩ nx 0, rfl⟩
  have hv : ∀ n, VW n (.dat 2 (tagR l ++ [tgcells (nx, up)]) .no) (.dat 2 (tagR (l ++ [(nx, up)])) .no) := fun n => by rw [tagR_app]; exact .no _ _ _
  have hv2 : ∀ n, VW n (.tup [.agg (tagsV ⟨IntKind.u64.wrap (nx + 1), up, l ++ [(nx, up)]⟩ (.dat 2 (tagR l ++ [tgcells (nx, up)]) .no)), .int .u64 nx, .int .i64 0]) (.tup [.agg (tagsC ⟨IntKind.u64.wrap (nx + 1), up, l ++ [(nx, up)]⟩), .int .u64 nx, .int .i64 0]) :=
    fun n => VW.tupL (.cons (VW.aggL (tagsV_vw (hv n))) (.cons (.im _) (.cons (.im _) .nil)))
  exact hv2 _
end Go.Abs.Sig

/-! LC3 -/
namespace Go.Abs.Sig
open Go.RowKit Go.Abs Go.Lib
set_option linter.unusedSimpArgs false
set_option linter.unusedVariables false
set_option maxRecDepth 8000

set_option maxHeartbeats 4000000 in
set_option maxRecDepth 100000 in
/-- slices.Grow of a nil slice. -/
theorem grow_calls (base : Option Addr) (n : Nat) (hn : 0 < n) (hb : n * 16 ≤ maxBytes) (w : World) :
    Calls Go.Proofs.Tryz.prog 171 #[.slice base 0 0, .int .i64 n] w fun e w' => e = .returned (.slice (some ⟨w.heap.size, 0, none⟩) 0 (grownCap w n 0 48)) ∧
      w' = w.drew.alloc (.cells (#[] ++ Builtin.zeroCells (Value.agg #[.int .u64 0, .int .u64 0]).cells n ++ Builtin.zeroCells (Value.agg #[.int .u64 0, .int .u64 0]).cells (grownCap w n 0 48 - n)) 48) := by
  have hmb : maxBytes = 140737488355328 := rfl
  have hi0 : (Go.Proofs.Tryz.prog).info? 48 = some Go.Proofs.Tryz.t48 := rfl
  have hz0 : Go.Proofs.Tryz.t48.zero = some (Value.agg #[.int .u64 0, .int .u64 0]) := rfl
  have h1 : ¬ ((n : Int) < 0) := by omega
  have h4 : (n : Int) > 0 := by omega
  have hold : (Builtin.firstCells Go.Proofs.Tryz.t48.size 0 (.slice base 0 0)).run Go.Proofs.Tryz.prog w.drew = .ok ([] : List Value).toArray w.drew := by
    cases base with
    | none => exact run_firstCells_none w.drew _ 0 0 0
    | some a => exact run_firstCells_some w.drew _ 0 a 0 0 [] rfl (fun j v hj => by simp at hj)
  have hrz : ∀ ty, (Builtin.append_ #[23, 3] ty #[.slice base 0 0, .int .i64 (n : Int)]).run Go.Proofs.Tryz.prog w =
      .ok (.slice (some ⟨w.heap.size, 0, none⟩) n (grownCap w n 0 48)) (w.drew.alloc (.cells (#[] ++ Builtin.zeroCells (Value.agg #[.int .u64 0, .int .u64 0]).cells n ++ Builtin.zeroCells (Value.agg #[.int .u64 0, .int .u64 0]).cells (grownCap w n 0 48 - n)) 48)) := fun ty => by
    have h := Lib.run_append_grow_zeros w 23 3 ty 48 Go.Proofs.Tryz.t48 _ .i64 .i64 (by kernel_rfl) (by kernel_rfl) hi0 hz0 base 0 0 [] hold n (by omega) (by decide) (by omega) (by omega)
      (by show n * 16 ≤ _; omega)
      (by rw [Nat.zero_add]; exact growslice_fits hn (by show n * 16 ≤ _; omega))
    rw [Nat.zero_add] at h
    exact h
  have hGn : n ≤ grownCap w n 0 48 := grownCap_ge w _ _ _
  obtain ⟨Gc, hG⟩ : ∃ Gc, Gc = grownCap w n 0 48 := ⟨_, rfl⟩
  rw [← hG] at hrz hGn ⊢
  have hG63 : Gc ≤ 9223372036854775807 := by
    have := grownCap_le_maxLen w n 0 48 (by unfold maxLen; omega)
    rw [← hG] at this
    unfold maxLen at this
    omega
  clear hold hG
  go_enter Go.Proofs.Tryz.func171, Go.Proofs.Tryz.ntmps171
  cases base with
  | none =>
    go_wp2_with (at_builtin; refine Lib.wpList_append_run _ rfl _ _ _ _ rfl _ _ rfl rfl _ _ (hrz _) ?_)
    all_goals (go_ret; exact ⟨rfl, rfl⟩)
  | some a =>
    obtain ⟨ab, ao, asp⟩ := a
    go_wp2_with (at_builtin; refine Lib.wpList_append_run _ rfl _ _ _ _ rfl _ _ rfl rfl _ _ (hrz _) ?_)
    all_goals (go_ret; exact ⟨rfl, rfl⟩)

theorem rep_tight0 {w : World} {e : Env} {es : Nat} {u : Value} (h : Rep w e (.dat es [] .tight) u) : ∃ base, u = .slice base 0 0 := by
  cases h with
  | nil => exact ⟨_, rfl⟩
  | nul => exact ⟨_, rfl⟩
  | dat _ _ _ b o cap _ _ _ ht => 
    have := ht rfl
    subst this
    exact ⟨_, rfl⟩

theorem grow_ct (G : Nat → Option (List V)) (n c : Nat) (hn : 0 < n) (hb : n * 16 ≤ maxBytes) (H : Heap) : Call2 Go.Proofs.Tryz.prog G 171 [.dat 0 [] .tight, .int .i64 (n : Int)] H fun r H' => H' = H ∧ r = .dat 2 [] (.cls c) := by
  refine ⟨⟨_, Go.Proofs.Tryz.func171, rfl, by decide⟩, fun w e us hR hA => ?_⟩
  obtain ⟨hl, hg⟩ := hA
  match us, hl, hg with
  | [u0, u1], _, hg =>
  obtain ⟨base, rfl⟩ := rep_tight0 (hg 0 _ _ rfl rfl).1
  obtain rfl := rep_im (hg 1 _ _ rfl rfl)
  refine CallsIn.mono (callsIn_wide.2 (grow_calls base n hn hb w)) ?_
  rintro en w' ⟨rfl, rfl⟩
  have hst : RSt G { tmps := [], H := H, defs := [], cur := none } { tmps := #[], defers := [] } w e := ⟨hR, ⟨rfl, fun i v u h => by simp at h⟩, rfl, fun id h => by simp at h, fun id h => by cases h⟩
  obtain ⟨hd, hx⟩ := hst.drew
  have hcap := grownCap_ge w n 0 48
  generalize grownCap w n 0 48 = cap at hcap ⊢
  generalize hcs : (#[] ++ Builtin.zeroCells (Value.agg #[.int .u64 0, .int .u64 0]).cells n ++ Builtin.zeroCells (Value.agg #[.int .u64 0, .int .u64 0]).cells (cap - n)) = cs
  have hsz : cs.size = cap * 2 := by
    rw [← hcs]
    simp only [Array.size_append, size_zeroCells]
    show 0 + n * 2 + (cap - n) * 2 = cap * 2
    omega
  obtain ⟨_, h2, h3⟩ := hd.heap.lay 48 cs 0 c (Nat.zero_le _)
  refine ⟨_, .dat 2 [] (.cls c), H, _, rfl, ⟨rfl, rfl⟩, h2, ⟨?_, ?_⟩, hx.trans h3⟩
  · exact .dat 2 [] (.cls c) w.heap.size 0 cap (fun _ _ => .tuple #[]) (fun r hr => by cases hr) (Nat.zero_le _) (fun h => by cases h) (fun i j v h => by simp [at2] at h) (fun i j v h => by simp [at2] at h)
  · refine ⟨fun _ => .inr (by decide), fun k h1 h2 => .inr ⟨rfl, rfl, by omega, ?_⟩⟩
    show 0 + k < cs.size
    omega
end Go.Abs.Sig

/-! LC4 -/
namespace Go.Abs.Sig
open Go.RowKit Go.Abs Go.Lib
set_option linter.unusedSimpArgs false
set_option linter.unusedVariables false
set_option maxRecDepth 8000

set_option maxHeartbeats 4000000 in
set_option maxRecDepth 100000 in
theorem grow0_calls (base : Option Addr) (w : World) : Calls Go.Proofs.Tryz.prog 171 #[.slice base 0 0, .int .i64 0] w fun e w' => e = .returned (.slice base 0 0) ∧ w' = w := by
  go_enter Go.Proofs.Tryz.func171, Go.Proofs.Tryz.ntmps171
  go_wp2
  go_ret
  exact ⟨rfl, rfl⟩
theorem grow0_ct (G : Nat → Option (List V)) (H : Heap) : Call2 Go.Proofs.Tryz.prog G 171 [.dat 0 [] .tight, .int .i64 0] H fun r H' => H' = H ∧ r = .dat 0 [] .tight := by
  refine ⟨⟨_, Go.Proofs.Tryz.func171, rfl, by decide⟩, fun w e us hR hA => ?_⟩
  obtain ⟨hl, hg⟩ := hA
  match us, hl, hg with
  | [u0, u1], _, hg =>
  have hr := hg 0 _ _ rfl rfl
  obtain ⟨base, rfl⟩ := rep_tight0 hr.1
  obtain rfl := rep_im (hg 1 _ _ rfl rfl)
  refine CallsIn.mono (callsIn_wide.2 (grow0_calls base w)) ?_
  rintro en w' ⟨rfl, rfl⟩
  exact ⟨_, .dat 0 [] .tight, H, e, rfl, ⟨rfl, rfl⟩, hR, hr, .refl _ _ _⟩
/-- As it is called: it gives room, or there is none wanted. -/
theorem grown_ct (G : Nat → Option (List V)) (n : Nat) (hb : n * 16 ≤ maxBytes) (H : Heap) : Call2 Go.Proofs.Tryz.prog G 171 [.dat 0 [] .tight, .int .i64 (n : Int)] H fun r H' => H' = H ∧ (r = .dat 2 [] (.cls 33) ∨ r = .dat 0 [] .tight) := by
  by_cases hn : n = 0
  · subst hn
    exact (grow0_ct G H).mono fun r H' h => ⟨h.1, .inr h.2⟩
  · exact (grow_ct G n 33 (by omega) hb H).mono fun r H' h => ⟨h.1, .inl h.2⟩

attribute [local irreducible] StCall StYield WPc Weak IterOf Lp2
def ccR (a b : List (Int × Int)) : List (List V) := [[.dat 2 (tagR a) .no], [.dat 2 (tagR b) .no]]
def ccSum (a b : List (Int × Int)) : Nat → Nat
  | 0 => 0
  | 1 => a.length
  | _ => a.length + b.length
def ccS1 (a b : List (Int × Int)) (j : Nat) : S2 := headS 36 ([.dat 1 (ccR a b) .no, .bad, .bad, .int .i64 (ccSum a b j : Int), .bad, .bad, .bad, .bad, .bad, .dat 1 (ccR a b) .no, .int .i64 2, .int .i64 (j : Int)] ++ List.replicate 24 .bad) [] [] none
def ccAcc (a b : List (Int × Int)) : Nat → List (Int × Int)
  | 0 => []
  | 1 => a
  | _ => a ++ b
def ccS2 (a b : List (Int × Int)) (j : Nat) : S2 := headS 36 ([.bad, .bad, .bad, .bad, .bad, .bad, .dat 2 (tagR (ccAcc a b j)) (.cls 33), .bad, .bad, .bad, .bad, .bad, .bad, .bad, .bad, .bad, .bad, .bad, .bad, .bad, .bad, .bad, .bad, .bad, .bad,
  .dat 1 (ccR a b) .no, .int .i64 2, .int .i64 (j : Int)] ++ List.replicate 8 .bad) [] [] none
theorem concat2_ct (G : Nat → Option (List V)) (a b : List (Int × Int)) (hl : (a.length + b.length) * 16 ≤ maxBytes) (H : Heap) :
    Call2 Go.Proofs.Tryz.prog G 149 [.dat 1 (ccR a b) .no] H fun r H' => H' = H ∧ r = .dat 2 (tagR (a ++ b)) .no := by
  refine Call2.free (fun y hy => by
    simp only [List.mem_cons, List.not_mem_nil, or_false] at hy
    subst hy
    exact .dat _ _ _ (by simp)) ?_ H
  have hmb : maxBytes = 140737488355328 := rfl
  refine Call2.weakR ?_
  have hg := grown_ct G (a.length + b.length) hl
  have ha : (tagR a).length = a.length := by simp [tagR]
  have hb : (tagR b).length = b.length := by simp [tagR]
  refine stCall2 Go.Proofs.Tryz.func149 rfl (by decide) ?_
  conv => whnf
  intro hw
  refine wpc_loop2 (fun n1 s1 => ∃ j : Nat, j ≤ 2 ∧ n1 = 2 - j ∧ s1 = ccS1 a b j) 2 (ccS1 a b 0) ?_ ⟨0, by omega, rfl, rfl⟩ ?_ ?_
  · exact weak2 hw rfl ⟨.dat _ _ _, .im _, .dat _ _ _, .im _, .im _, trivial⟩ (.nil _) (fun id hid => by cases hid) rfl (fun id hid => by cases hid)
  · rintro n1 s1 ⟨j, _, _, rfl⟩
    exact ⟨⟨Nat.le_refl 36, fun x hx => by cases hx⟩, rfl, Nat.le_refl _, rfl⟩
  rintro n1 s1 ⟨j, hj, rfl, rfl⟩
  by_cases hj2 : j < 2
  · have hd0 : (true && true && decide ((0 : Int) ≤ (j : Int))) = true := by simp
    have hwj : IntKind.i64.wrap ((j : Int) + 1) = ((j + 1 : Nat) : Int) := by rw [wrap_i64 (by omega) (by omega)]; rfl
    obtain ⟨x, hx, hsum⟩ : ∃ x : List (Int × Int), (ccR a b)[Int.toNat (j : Int)]? = some [.dat 2 (tagR x) .no] ∧ ccSum a b (j + 1) = ccSum a b j + x.length := by
      match j, hj2 with
      | 0, _ => exact ⟨a, rfl, by simp [ccSum]⟩
      | 1, _ => exact ⟨b, rfl, by simp [ccSum]⟩
    have hxl : (tagR x).length = x.length := by simp [tagR]
    have hle : ccSum a b j + x.length ≤ a.length + b.length := by
      rw [← hsum]
      match j, hj2 with
      | 0, _ => simp [ccSum]
      | 1, _ => simp [ccSum]
    have hws : IntKind.i64.wrap ((ccSum a b j : Int) + ((tagR x).length : Int)) = ((ccSum a b (j + 1) : Nat) : Int) := by rw [hxl, wrap_i64 (by omega) (by omega), hsum]; rfl
    conv => whnf
    refine br_t (decide_eq_true (by omega)) ?_
    conv => whnf
    refine grd_intro hd0 (optK_intro hx ?_)
    conv => whnf
    rw [hws]
    rw [show decide (((ccSum a b (j + 1) : Nat) : Int) < 0) = false from decide_eq_false (by omega)]
    conv => whnf
    intro hw2
    refine ⟨2 - (j + 1), ccS1 a b (j + 1), by omega, ?_, j + 1, by omega, rfl, rfl⟩
    exact weak2 hw2 rfl ⟨.dat _ _ _, .int rfl, .dat _ _ _, .im _, .int hwj, trivial⟩ (.nil _) (fun id hid => by cases hid) rfl (fun id hid => by cases hid)
  · have hje : j = 2 := by omega
    subst hje
    conv => whnf
    refine Call2.mono (hg _) fun r0 H0 h => ?_
    obtain ⟨h1, h2⟩ := h
    rw [h1]
    clear h1 H0
    rcases h2 with rfl | rfl
    · have hvw : VW 0 (.dat 2 [] (.cls 33)) (.dat 2 (tagR (ccAcc a b 0)) (.cls 33)) := .dat _ _ _
      conv => whnf
      intro hw3
      refine wpc_loop2 (fun n1 s1 => ∃ j : Nat, j ≤ 2 ∧ n1 = 2 - j ∧ s1 = ccS2 a b j) 2 (ccS2 a b 0) ?_ ⟨0, by omega, rfl, rfl⟩ ?_ ?_
      · exact weak2 hw3 rfl ⟨hvw, .dat _ _ _, .im _, .im _, trivial⟩ (.nil _) (fun id hid => by cases hid) rfl (fun id hid => by cases hid)
      · rintro n1 s1 ⟨j, _, _, rfl⟩
        exact ⟨⟨Nat.le_refl 36, fun x hx => by cases hx⟩, rfl, Nat.le_refl _, rfl⟩
      rintro n1 s1 ⟨j, hj, rfl, rfl⟩
      by_cases hj2 : j < 2
      · have hd0 : (true && true && decide ((0 : Int) ≤ (j : Int))) = true := by simp
        have hwj : IntKind.i64.wrap ((j : Int) + 1) = ((j + 1 : Nat) : Int) := by rw [wrap_i64 (by omega) (by omega)]; rfl
        obtain ⟨x, hx, hsum⟩ : ∃ x : List (Int × Int), (ccR a b)[Int.toNat (j : Int)]? = some [.dat 2 (tagR x) .no] ∧ ccAcc a b (j + 1) = ccAcc a b j ++ x := by
          match j, hj2 with
          | 0, _ => exact ⟨a, rfl, by simp [ccAcc]⟩
          | 1, _ => exact ⟨b, rfl, by simp [ccAcc]⟩
        have hxl : (tagR x).length = x.length := by simp [tagR]
        have hal : (tagR (ccAcc a b j)).length = (ccAcc a b j).length := by simp [tagR]
        have hle : (ccAcc a b j).length + x.length ≤ a.length + b.length := by
          rw [← List.length_append, ← hsum]
          match j, hj2 with
          | 0, _ => simp [ccAcc]
          | 1, _ => simp [ccAcc]
        have happ : tagR (ccAcc a b j) ++ tagR x = tagR (ccAcc a b (j + 1)) := by rw [hsum]; simp [tagR]
        conv => whnf
        refine br_t (decide_eq_true (by omega)) ?_
        conv => whnf
        refine grd_intro hd0 (optK_intro hx ?_)
        conv => whnf
        refine ⟨.inr rfl, .inr rfl, ?_, ?_, ?_, ?_⟩
        · intro r hr
          obtain ⟨y, _, rfl⟩ := List.mem_map.1 hr
          rfl
        · show ((tagR (ccAcc a b j)).length + (tagR x).length) * 16 ≤ maxBytes
          rw [hal, hxl]; omega
        · show (tagR (ccAcc a b j)).length + (tagR x).length ≤ maxBytes
          rw [hal, hxl]; omega
        rw [happ]
        conv => whnf
        intro hw4
        refine ⟨2 - (j + 1), ccS2 a b (j + 1), by omega, ?_, j + 1, by omega, rfl, rfl⟩
        exact weak2 hw4 rfl ⟨.dat _ _ _, .dat _ _ _, .im _, .int hwj, trivial⟩ (.nil _) (fun id hid => by cases hid) rfl (fun id hid => by cases hid)
      · have hje : j = 2 := by omega
        subst hje
        conv => whnf
        exact ⟨.dat 2 (tagR (a ++ b)) .no, .dat _ _ _, .dat _ _ _ (by simp), rfl⟩
    · have hvw : VW 0 (.dat 0 [] .tight) (.dat 2 (tagR (ccAcc a b 0)) (.cls 33)) := .nil _ _ _ _ (.inl rfl)
      conv => whnf
      intro hw3
      refine wpc_loop2 (fun n1 s1 => ∃ j : Nat, j ≤ 2 ∧ n1 = 2 - j ∧ s1 = ccS2 a b j) 2 (ccS2 a b 0) ?_ ⟨0, by omega, rfl, rfl⟩ ?_ ?_
      · exact weak2 hw3 rfl ⟨hvw, .dat _ _ _, .im _, .im _, trivial⟩ (.nil _) (fun id hid => by cases hid) rfl (fun id hid => by cases hid)
      · rintro n1 s1 ⟨j, _, _, rfl⟩
        exact ⟨⟨Nat.le_refl 36, fun x hx => by cases hx⟩, rfl, Nat.le_refl _, rfl⟩
      rintro n1 s1 ⟨j, hj, rfl, rfl⟩
      by_cases hj2 : j < 2
      · have hd0 : (true && true && decide ((0 : Int) ≤ (j : Int))) = true := by simp
        have hwj : IntKind.i64.wrap ((j : Int) + 1) = ((j + 1 : Nat) : Int) := by rw [wrap_i64 (by omega) (by omega)]; rfl
        obtain ⟨x, hx, hsum⟩ : ∃ x : List (Int × Int), (ccR a b)[Int.toNat (j : Int)]? = some [.dat 2 (tagR x) .no] ∧ ccAcc a b (j + 1) = ccAcc a b j ++ x := by
          match j, hj2 with
          | 0, _ => exact ⟨a, rfl, by simp [ccAcc]⟩
          | 1, _ => exact ⟨b, rfl, by simp [ccAcc]⟩
        have hxl : (tagR x).length = x.length := by simp [tagR]
        have hal : (tagR (ccAcc a b j)).length = (ccAcc a b j).length := by simp [tagR]
        have hle : (ccAcc a b j).length + x.length ≤ a.length + b.length := by
          rw [← List.length_append, ← hsum]
          match j, hj2 with
          | 0, _ => simp [ccAcc]
          | 1, _ => simp [ccAcc]
        have happ : tagR (ccAcc a b j) ++ tagR x = tagR (ccAcc a b (j + 1)) := by rw [hsum]; simp [tagR]
        conv => whnf
        refine br_t (decide_eq_true (by omega)) ?_
        conv => whnf
        refine grd_intro hd0 (optK_intro hx ?_)
        conv => whnf
        refine ⟨.inr rfl, .inr rfl, ?_, ?_, ?_, ?_⟩
        · intro r hr
          obtain ⟨y, _, rfl⟩ := List.mem_map.1 hr
          rfl
        · show ((tagR (ccAcc a b j)).length + (tagR x).length) * 16 ≤ maxBytes
          rw [hal, hxl]; omega
        · show (tagR (ccAcc a b j)).length + (tagR x).length ≤ maxBytes
          rw [hal, hxl]; omega
        rw [happ]
        conv => whnf
        intro hw4
        refine ⟨2 - (j + 1), ccS2 a b (j + 1), by omega, ?_, j + 1, by omega, rfl, rfl⟩
        exact weak2 hw4 rfl ⟨.dat _ _ _, .dat _ _ _, .im _, .int hwj, trivial⟩ (.nil _) (fun id hid => by cases hid) rfl (fun id hid => by cases hid)
      · have hje : j = 2 := by omega
        subst hje
        conv => whnf
        exact ⟨.dat 2 (tagR (a ++ b)) .no, .dat _ _ _, .dat _ _ _ (by simp), rfl⟩
end Go.Abs.Sig

/-! LC5 -/
namespace Go.Abs.Sig
open Go.RowKit Go.Abs
set_option linter.unusedSimpArgs false
set_option linter.unusedVariables false
set_option maxRecDepth 8000
attribute [local irreducible] StCall StYield WPc Weak IterOf Lp2

/-! the broker's numbers of some deliveries -/
def upR (l : List (Int × Int)) : List (List V) := l.map fun x => [.int .u64 x.2]
def upS1 (id k : Nat) (l : List (Int × Int)) (j : Nat) (H : Heap) : S2 := headS 17 ([.yld id, .ptr k 0, .bad, .bad, .bad, .dat 2 (tagR l) .no, .int .i64 (l.length : Int), .int .i64 (j : Int)] ++ List.replicate 9 .bad) H [] none
theorem ups1_ct (G : Nat → Option (List V)) (l : List (Int × Int)) (hl : l.length ≤ maxBytes) (k : Nat) : IterOf Go.Proofs.Tryz.prog G 170 [] [.ptr k 0] (upR l) fun H => H[k]? = some (some (.cells 23 [.dat 2 (tagR l) .no])) := by
  have hmb : maxBytes = 140737488355328 := rfl
  have hvl : (tagR l).length = l.length := by simp [tagR]
  refine IterOf.mk fun id n Inv Fin H hI hF hy hend h0 hs => ?_
  obtain ⟨hn, hid, hk0⟩ := hI 0 H h0
  have hkn : k < n := hn ▸ (List.getElem?_eq_some_iff.1 hk0).1
  refine StCall.cut ?_
  refine (stCall2 Go.Proofs.Tryz.func170 rfl (by decide) ?_).2
  conv => whnf
  rw [hk0]
  conv => whnf
  rw [hvl]
  intro hw
  refine wpc_loop2 (fun m s1 => ∃ (j : Nat) (H' : Heap), m = l.length - j ∧ j ≤ l.length ∧ Inv j H' ∧ Scoped H' ∧ s1 = upS1 id k l j H') l.length (upS1 id k l 0 H) ?_ ⟨0, H, rfl, by omega, h0, hs, rfl⟩ ?_ ?_
  · exact weak2 hw rfl ⟨.yld _ (by omega), .ptr _ _ (by omega), .dat _ _ _, .im _, .im _, trivial⟩ hs.bws (fun id hid => by cases hid) rfl (fun id hid => by cases hid)
  · rintro m s1 ⟨j, H', rfl, hj, hI', hs', rfl⟩
    refine ⟨⟨Nat.le_refl 17, fun x hx => by cases hx⟩, rfl, ?_, rfl⟩
    show H.length ≤ H'.length
    rw [(hI _ H' hI').1, ← hn]
    exact Nat.le_refl _
  rintro m s1 ⟨j, H', rfl, hj, hI', hs', rfl⟩
  obtain ⟨hn', _, hk⟩ := hI _ H' hI'
  by_cases hjl : j < l.length
  · have hd0 : (true && true && decide ((0 : Int) ≤ (j : Int))) = true := by simp
    have hwj : IntKind.i64.wrap ((j : Int) + 1) = ((j + 1 : Nat) : Int) := by rw [wrap_i64 (by omega) (by omega)]; rfl
    have hg1 : (tagR l)[Int.toNat (j : Int)]? = some (tgcells l[j]) := rowGet _ l j hjl
    have hit : (upR l)[j]? = some [.int .u64 l[j].2] := by simp [upR, hjl]
    conv => whnf
    refine br_t (decide_eq_true (by omega)) ?_
    conv => whnf
    refine grd_intro hd0 (optK_intro hg1 ?_)
    iterate 3 (conv => whnf; try simp only [List.append_assoc, List.cons_append, List.nil_append, List.length_append, List.length_cons, List.length_nil, Nat.zero_add, Nat.add_assoc, Nat.reduceAdd, ga0, ga1, ga2, ga3, ga4, ga5, sa0, sa1, sa2, sa3, sa4, sa5, S2.setH_H, List.all_cons, List.all_nil, isDefd, nodupB, List.any_nil, Bool.and_true, Bool.not_false, List.foldl_cons, List.foldl_nil])
    have hfr := (hy j _ H' hit hI' hs').frame [some (.cells 48 (tgcells l[j]))] hs' (fun v hv => by
      obtain rfl := List.mem_singleton.1 hv
      exact ⟨.im _, rfl⟩) (fun c hc => by cases hc)
    refine StYield.mono (show StYield Go.Proofs.Tryz.prog G id _ _ _ from hfr) ?_
    rintro r1 H1 ⟨H3, rfl, hl3, hs3, h5⟩
    rcases h5 with ⟨rfl, h6⟩ | ⟨rfl, h6⟩
    · conv => whnf
      intro hw2
      refine ⟨l.length - (j + 1), upS1 id k l (j + 1) H3, by omega, ?_, j + 1, H3, rfl, by omega, h6, hs3, rfl⟩
      exact weak2 hw2 rfl ⟨.yld _ (show id < H3.length by omega), .ptr _ _ (show k < H3.length by omega), .dat _ _ _, .im _, .int hwj, trivial⟩ (Go.Abs.bws_app hs3) (fun id hid => by cases hid) rfl (fun id hid => by cases hid)
    · conv => whnf
      exact ⟨H3, Cut.app hs3 (by omega), .free (.tup _ (by simp)), h6⟩
  · have hje : j = l.length := by omega
    subst hje
    conv => whnf
    refine br_f (decide_eq_false (by omega)) ?_
    conv => whnf
    exact ⟨H', Cut.self hs' (by omega), .free (.tup _ (by simp)), hend H' (by rw [show (upR l).length = l.length by simp [upR]]; exact hI')⟩
end Go.Abs.Sig
