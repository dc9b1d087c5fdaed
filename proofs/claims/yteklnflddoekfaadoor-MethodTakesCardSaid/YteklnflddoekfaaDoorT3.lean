/- The walks of some functions: what they compute. -/
import Derived.Test.YteklnflddoekfaaDoorT2

/-! R9 -/
namespace Go.Abs.Sig
open Go.RowKit Go.Abs
set_option linter.unusedSimpArgs false
set_option linter.unusedVariables false
set_option maxRecDepth 8000

section
attribute [local irreducible] StCall StYield WPc Weak IterOf Lp2

theorem rlayS_ct (G : Nat → Option (List V)) (s : List UInt8) (hs : s.length ≤ maxBytes) (H : Heap) : Call2 Go.Proofs.Tryd.prog G 53 [.str s] H fun r H' => H' = H ∧ r = .tup [.str (layS 1 s).1, .int .i64 (layS 1 s).2] := by
  refine Call2.free (fun x hx => by
    simp only [List.mem_cons, List.not_mem_nil, or_false] at hx
    subst hx
    exact .str _) ?_ H
  refine stCall2 Go.Proofs.Tryd.func53 rfl (by decide) ?_
  have hl : (s.length : Int) ≤ 140737488355328 := by simp only [maxBytes] at hs; omega
  by_cases e1 : (s.length : Int) > 255
  · have ht : layS 1 s = ([], 4) := by
      have : tooBig 1 (s.length : Int) = true := by
        have : ((s.length : Int)).fdiv (2 ^ (8 * 1)) ≠ 0 := by
          rw [Int.fdiv_eq_ediv_of_nonneg _ (by decide)]; omega
        simp only [tooBig]
        rw [show (decide (((1 : Nat) : Int) < 8)) = true from rfl]
        show decide _ = _
        simp only [this, ne_eq, not_true, not_false_eq_true, decide_true, decide_false]
      unfold layS; rw [this]; rfl
    rw [ht]
    conv => whnf
    rw [decide_eq_true e1]
    conv => whnf
    exact ⟨strE_free, rfl⟩
  have ht : layS 1 s = (byteAt (s.length : Int) 0 :: s, 0) := by
      have : tooBig 1 (s.length : Int) = false := by
        have : ((s.length : Int)).fdiv (2 ^ (8 * 1)) = 0 := by
          rw [Int.fdiv_eq_ediv_of_nonneg _ (by decide)]; omega
        simp only [tooBig]
        rw [show (decide (((1 : Nat) : Int) < 8)) = true from rfl]
        show decide _ = _
        simp only [this, ne_eq, not_true, not_false_eq_true, decide_true, decide_false]
      unfold layS; rw [this]; rfl
  rw [ht]
  conv => whnf
  rw [decide_eq_false e1]
  conv => whnf
  refine ⟨rfl, .inr rfl, [UInt8.ofNat (IntKind.u8.wrap (s.length : Int)).toNat], ?_, ?_⟩
  · show [[V.int .u8 (IntKind.u8.wrap (s.length : Int))]] = [[V.int .u8 _]]
    rw [u8w]
  conv => whnf
  refine ⟨?_, ?_⟩
  · show ((1 + s.length : Nat) : Int) ≤ 9223372036854775807
    omega
  conv => whnf
  refine ⟨strE_free, ?_⟩
  show V.tup [.str ([UInt8.ofNat (IntKind.u8.wrap (s.length : Int)).toNat] ++ s), .int .i64 0] = _
  rw [show byteAt (s.length : Int) 0 = UInt8.ofNat (IntKind.u8.wrap (s.length : Int)).toNat from by unfold byteAt; rw [show (2 : Int) ^ (8 * 0) = 1 from rfl, Int.fdiv_one]]
  rfl

end
end Go.Abs.Sig

/-! R10 -/
namespace Go.Abs.Sig
open Go.RowKit Go.Abs
set_option linter.unusedSimpArgs false
set_option linter.unusedVariables false
set_option maxRecDepth 8000

theorem byteAt_succ {v : Int} (hv : 0 ≤ v) (i : Nat) : byteAt v (i + 1) = byteAt (v / 256) i := by
  unfold byteAt
  congr 3
  have hp : ∀ n : Nat, (0 : Int) ≤ 2 ^ n := fun n => Int.le_of_lt (Int.pow_pos (by decide))
  rw [Int.fdiv_eq_ediv_of_nonneg _ (hp _), Int.fdiv_eq_ediv_of_nonneg _ (hp _), Int.ediv_ediv_of_nonneg (by decide)]
  congr 1
  rw [show 8 * (i + 1) = 8 + 8 * i by omega, Int.pow_add]; rfl

theorem putB_snoc {v : Int} (hv : 0 ≤ v) (k : Nat) : putB (k + 1) v = putB k (v / 256) ++ [byteAt v 0] := by
  unfold putB
  rw [List.range_succ_eq_map, List.reverse_cons, List.map_append, ← List.map_reverse, List.map_map]
  congr 1
  exact List.map_congr_left fun i _ => byteAt_succ hv i

theorem putL_eq : ∀ (k : Nat) (v : Int) (s : List UInt8), 0 ≤ v → v < 18446744073709551616 → putL k v s = (v / 256 ^ k, putB k v ++ s)
  | 0, v, s, h1, h2 => by simp [putL, putB]
  | k + 1, v, s, h1, h2 => by
    unfold putL
    have hd : v.tdiv 256 = v / 256 := Int.tdiv_eq_ediv_of_nonneg h1
    have hm : v.tmod 256 = v % 256 := Int.tmod_eq_emod_of_nonneg h1
    have hw : IntKind.u64.wrap (v / 256) = v / 256 := by
      show (v / 256) % 18446744073709551616 = _
      omega
    rw [hd, hm, hw, putL_eq k (v / 256) _ (by omega) (by omega), putB_snoc h1]
    refine Prod.ext ?_ ?_
    · simp only
      rw [Int.ediv_ediv_of_nonneg (by decide), Int.pow_succ, Int.mul_comm]
    · simp only [List.append_assoc]
      congr 2
      have : byteAt v 0 = UInt8.ofNat (IntKind.u8.wrap (v % 256)).toNat := by
        unfold byteAt
        rw [show (2 : Int) ^ (8 * 0) = 1 from rfl, Int.fdiv_one]
        congr 2
        show v % 256 = v % 256 % 256
        omega
      rw [this]

theorem rput_eq {n : Nat} (hn : n = 1 ∨ n = 2 ∨ n = 4 ∨ n = 8) {v : Int} (h1 : 0 ≤ v) (h2 : v < 18446744073709551616) : rput n v = nput n v := by
  unfold rput nput
  rw [putL_eq n v [] h1 h2]
  have ht : tooBig n v = decide (0 < v / 256 ^ n) := by
    unfold tooBig
    rcases hn with rfl | rfl | rfl | rfl
    · show decide _ = _
      rw [Int.fdiv_eq_ediv_of_nonneg _ (by decide)]
      exact decide_eq_decide.2 (by omega)
    · show decide _ = _
      rw [Int.fdiv_eq_ediv_of_nonneg _ (by decide)]
      exact decide_eq_decide.2 (by omega)
    · show decide _ = _
      rw [Int.fdiv_eq_ediv_of_nonneg _ (by decide)]
      exact decide_eq_decide.2 (by omega)
    · show false = _
      exact (decide_eq_false (by omega)).symm
  rw [ht]
  simp

section
attribute [local irreducible] StCall StYield WPc Weak IterOf Lp2

theorem rlayL_ct (G : Nat → Option (List V)) (s : List UInt8) (hs : s.length ≤ maxBytes) (H : Heap) : Call2 Go.Proofs.Tryd.prog G 54 [.str s] H fun r H' => H' = H ∧ r = .tup [.str (layS 4 s).1, .int .i64 (layS 4 s).2] := by
  refine Call2.free (fun x hx => by
    simp only [List.mem_cons, List.not_mem_nil, or_false] at hx
    subst hx
    exact .str _) ?_ H
  refine stCall2 Go.Proofs.Tryd.func54 rfl (by decide) ?_
  have hl : (s.length : Int) ≤ 140737488355328 := by simp only [maxBytes] at hs; omega
  have hc := rput_ct G 4 (.inr (.inr (.inl rfl))) (s.length : Int)
  rw [rput_eq (.inr (.inr (.inl rfl))) (by omega) (by omega)] at hc
  have hw : IntKind.u64.wrap (s.length : Int) = (s.length : Int) := by
    show (s.length : Int) % 18446744073709551616 = _
    omega
  cases ht : tooBig 4 (s.length : Int) with
  | true =>
    have h1 : nput 4 (s.length : Int) = ([], 4) := by unfold nput; rw [ht]; rfl
    have h2 : layS 4 s = ([], 4) := by unfold layS; rw [ht]; rfl
    rw [h1] at hc
    rw [h2]
    conv => whnf
    rw [hw]
    refine Call2.mono (hc _) fun r0 H0 h => ?_
    obtain ⟨h1, h2⟩ := h
    rw [h1, h2]
    clear h1 h2 r0 H0
    conv => whnf
    exact ⟨strE_free, rfl⟩
  | false =>
    have h1 : nput 4 (s.length : Int) = (putB 4 (s.length : Int), 0) := by unfold nput; rw [ht]; rfl
    have h2 : layS 4 s = (putB 4 (s.length : Int) ++ s, 0) := by unfold layS; rw [ht]; rfl
    have hpl := putB_len 4 (s.length : Int)
    rw [h1] at hc
    rw [h2]
    generalize putB 4 (s.length : Int) = b at hc hpl
    conv => whnf
    rw [hw]
    refine Call2.mono (hc _) fun r0 H0 h => ?_
    obtain ⟨h1, h2⟩ := h
    rw [h1, h2]
    clear h1 h2 r0 H0
    conv => whnf
    refine ⟨?_, ?_⟩
    · show ((b.length + s.length : Nat) : Int) ≤ 9223372036854775807
      omega
    conv => whnf
    exact ⟨strE_free, rfl⟩
end
end Go.Abs.Sig

/-! R11 -/
namespace Go.Abs.Sig
open Go.RowKit Go.Abs
set_option linter.unusedSimpArgs false
set_option linter.unusedVariables false
set_option maxRecDepth 8000

/-- The byte that the reference builds of the bits from place i on: after j of them. -/
def accI (l : List Bool) (i : Nat) : Nat → Int
  | 0 => 0
  | j + 1 => accI l i j + (if (l[i + j]?).getD false then 2 ^ j else 0)
theorem accI_bd (l : List Bool) (i : Nat) : ∀ j, 0 ≤ accI l i j ∧ accI l i j < 2 ^ j
  | 0 => by simp [accI]
  | j + 1 => by
    have := accI_bd l i j
    unfold accI
    rw [Int.pow_succ]
    split <;> omega
/-- The bytes. -/
def rbitsI (l : List Bool) : Nat → List UInt8
  | 0 => []
  | k + 1 => rbitsI l k ++ [UInt8.ofNat (accI l (8 * k) 8).toNat]

def rbS (l : List Bool) (k : Nat) (s : List UInt8) : S2 := headS 44 ([.dat 1 (bools l) .no, .bad, .bad, .str s, .int .i64 ((8 * k : Nat) : Int)] ++ List.replicate 39 .bad) [] [] none
def rcS (l : List Bool) (k : Nat) (s : List UInt8) (j : Nat) : S2 := headS 44 ([.dat 1 (bools l) .no, .bad, .bad, .str s, .int .i64 ((8 * k : Nat) : Int), .int .i64 (accI l (8 * k) j), .int .i64 (2 ^ j), .int .i64 ((8 * k + j : Nat) : Int)] ++ List.replicate 36 .bad) [] [] none

section
attribute [local irreducible] StCall StYield WPc Weak IterOf Lp2

theorem rbits_ct (G : Nat → Option (List V)) (l : List Bool) (hl : l.length ≤ 1000000) (H : Heap) : Call2 Go.Proofs.Tryd.prog G 52 [.dat 1 (bools l) .no] H fun r H' => H' = H ∧ r = .str (rbitsI l ((l.length + 7) / 8)) := by
  refine Call2.free (fun x hx => by
    simp only [List.mem_cons, List.not_mem_nil, or_false] at hx
    subst hx
    exact .dat _ _ _ (by simp)) ?_ H
  refine stCall2 Go.Proofs.Tryd.func52 rfl (by decide) ?_
  conv => whnf
  intro hw
  refine wpc_loop2 (fun n1 s1 => ∃ k : Nat, k ≤ (l.length + 7) / 8 ∧ n1 = (l.length + 7) / 8 - k ∧ s1 = rbS l k (rbitsI l k)) ((l.length + 7) / 8) (rbS l 0 []) ?_ ⟨0, by omega, rfl, rfl⟩ ?_ ?_
  · exact weak2 hw rfl ⟨.dat _ _ _, .str _, .im _, trivial⟩ (.nil _) (fun id hid => by cases hid) rfl (fun id hid => by cases hid)
  · rintro n1 s1 ⟨k, _, _, rfl⟩
    exact ⟨⟨Nat.le_refl 44, fun x hx => by cases hx⟩, rfl, Nat.le_refl _, rfl⟩
  · rintro n1 s1 ⟨k, hk, rfl, rfl⟩
    conv => whnf
    refine br_intro (fun hlt => ?_) (fun hge => ?_)
    · have hlt' : decide (((8 * k : Nat) : Int) < ((bools l).length : Int)) = true := hlt
      rw [decide_eq_true_eq, bools_len] at hlt'
      conv => whnf
      intro hw2
      have hw8 : IntKind.i64.wrap (((8 * k : Nat) : Int) + 8) = ((8 * k + 8 : Nat) : Int) := by rw [wrap_i64 (by omega) (by omega)]; omega
      refine wpc_loop2 (fun n1 s1 => ∃ j : Nat, j ≤ 8 ∧ n1 = 8 - j ∧ s1 = rcS l k (rbitsI l k) j) 8 (rcS l k (rbitsI l k) 0) ?_ ⟨0, by omega, rfl, rfl⟩ ?_ ?_
      · exact weak2 hw2 rfl ⟨.dat _ _ _, .str _, .im _, .im _, .im _, .im _, trivial⟩ (.nil _) (fun id hid => by cases hid) rfl (fun id hid => by cases hid)
      · rintro n1 s1 ⟨j, _, _, rfl⟩
        exact ⟨⟨Nat.le_refl 44, fun x hx => by cases hx⟩, rfl, Nat.le_refl _, rfl⟩
      · rintro n1 s1 ⟨j, hj, rfl, rfl⟩
        have hbd := accI_bd l (8 * k) j
        conv => whnf
        rw [hw8]
        refine br_intro (fun hlt2 => ?_) (fun hge2 => ?_)
        · have hlt2' : decide (((8 * k + j : Nat) : Int) < ((8 * k + 8 : Nat) : Int)) = true := hlt2
          rw [decide_eq_true_eq] at hlt2'
          have hj8 : j < 8 := by omega
          have hp : (2 : Int) ^ j ≤ 128 := (by decide : ∀ j : Fin 8, (2 : Int) ^ (j : Nat) ≤ 128) ⟨j, hj8⟩
          have hww : IntKind.i64.wrap ((2 : Int) ^ j + 2 ^ j) = 2 ^ (j + 1) := by rw [wrap_i64 (by omega) (by omega), Int.pow_succ]; omega
          have hwa : IntKind.i64.wrap (accI l (8 * k) j + 2 ^ j) = accI l (8 * k) j + 2 ^ j := wrap_i64 (by omega) (by omega)
          have hwj : IntKind.i64.wrap (((8 * k + j : Nat) : Int) + 1) = ((8 * k + (j + 1) : Nat) : Int) := by rw [wrap_i64 (by omega) (by omega)]; omega
          have hd0 : (true && true && decide ((0 : Int) ≤ ((8 * k + j : Nat) : Int))) = true := by simp; omega
          have hstep : ∀ b : Bool, (l[8 * k + j]?).getD false = b → accI l (8 * k) (j + 1) = accI l (8 * k) j + (if b then 2 ^ j else 0) := fun b h => by
            rw [← h]; rfl
          conv => whnf
          cases hb : decide (((8 * k + j : Nat) : Int) < ((bools l).length : Int))
          · rw [decide_eq_false_iff_not, bools_len] at hb
            have hs := hstep false (by rw [List.getElem?_eq_none (by omega)]; rfl)
            rw [if_neg (by decide), Int.add_zero] at hs
            conv => whnf
            intro hw3
            refine ⟨8 - (j + 1), rcS l k (rbitsI l k) (j + 1), by omega, ?_, j + 1, by omega, rfl, rfl⟩
            exact weak2 hw3 rfl ⟨.dat _ _ _, .str _, .im _, .int hs.symm, .int hww, .int hwj, trivial⟩ (.nil _) (fun id hid => by cases hid) rfl (fun id hid => by cases hid)
          · rw [decide_eq_true_eq, bools_len] at hb
            have hjl : 8 * k + j < l.length := by omega
            have hget : (bools l)[Int.toNat ((8 * k + j : Nat) : Int)]? = some [.bool l[8 * k + j]] := by
              show (bools l)[8 * k + j]? = _
              unfold bools
              rw [List.getElem?_map, List.getElem?_eq_getElem hjl]; rfl
            have hs := hstep l[8 * k + j] (by rw [List.getElem?_eq_getElem hjl]; rfl)
            cases hv : l[8 * k + j]
            · rw [hv] at hget hs
              rw [if_neg (by decide), Int.add_zero] at hs
              conv => whnf
              refine grd_intro hd0 (optK_intro hget ?_)
              conv => whnf
              intro hw3
              refine ⟨8 - (j + 1), rcS l k (rbitsI l k) (j + 1), by omega, ?_, j + 1, by omega, rfl, rfl⟩
              exact weak2 hw3 rfl ⟨.dat _ _ _, .str _, .im _, .int hs.symm, .int hww, .int hwj, trivial⟩ (.nil _) (fun id hid => by cases hid) rfl (fun id hid => by cases hid)
            · rw [hv] at hget hs
              rw [if_pos rfl] at hs
              conv => whnf
              refine grd_intro hd0 (optK_intro hget ?_)
              conv => whnf
              intro hw3
              refine ⟨8 - (j + 1), rcS l k (rbitsI l k) (j + 1), by omega, ?_, j + 1, by omega, rfl, rfl⟩
              exact weak2 hw3 rfl ⟨.dat _ _ _, .str _, .im _, .int (hwa.trans hs.symm), .int hww, .int hwj, trivial⟩ (.nil _) (fun id hid => by cases hid) rfl (fun id hid => by cases hid)
        · have hge2' : decide (((8 * k + j : Nat) : Int) < ((8 * k + 8 : Nat) : Int)) = false := hge2
          rw [decide_eq_false_iff_not] at hge2'
          have hj8 : j = 8 := by omega
          subst hj8
          have hu : IntKind.u8.wrap (accI l (8 * k) 8) = ((UInt8.ofNat (accI l (8 * k) 8).toNat).toNat : Int) := by
            have h256 : accI l (8 * k) 8 < 256 := hbd.2
            show accI l (8 * k) 8 % 256 = _
            rw [UInt8.toNat_ofNat']
            omega
          have hwk : IntKind.i64.wrap (((8 * k : Nat) : Int) + 8) = ((8 * (k + 1) : Nat) : Int) := by rw [hw8]; omega
          have hlen : ∀ n, (rbitsI l n).length = n := fun n => by
            induction n with
            | zero => rfl
            | succ n ih => unfold rbitsI; simp [ih]
          have hlk := hlen k
          conv => whnf
          refine ⟨rfl, .inr rfl, [UInt8.ofNat (accI l (8 * k) 8).toNat], ?_, ?_⟩
          · show [[V.int .u8 (IntKind.u8.wrap (accI l (8 * k) 8))]] = [[V.int .u8 _]]
            rw [hu]
          conv => whnf
          refine ⟨?_, ?_⟩
          · show (((rbitsI l k).length + 1 : Nat) : Int) ≤ 9223372036854775807
            omega
          conv => whnf
          intro hw3
          refine ⟨(l.length + 7) / 8 - (k + 1), rbS l (k + 1) (rbitsI l (k + 1)), by omega, ?_, k + 1, by omega, rfl, rfl⟩
          exact weak2 hw3 rfl ⟨.dat _ _ _, .str _, .int hwk, trivial⟩ (.nil _) (fun id hid => by cases hid) rfl (fun id hid => by cases hid)
    · have hge' : decide (((8 * k : Nat) : Int) < ((bools l).length : Int)) = false := hge
      rw [decide_eq_false_iff_not, bools_len] at hge'
      have hkl : k = (l.length + 7) / 8 := by omega
      conv => whnf
      refine ⟨.str _, ?_⟩
      rw [hkl]
      rfl
end
end Go.Abs.Sig

/-! R12 -/
namespace Go.Abs.Sig
open Go.RowKit Go.Abs
set_option linter.unusedSimpArgs false
set_option linter.unusedVariables false
set_option maxRecDepth 8000

theorem accI_bit (l : List Bool) (i : Nat) : ∀ (j u : Nat), u < j → (accI l i j).toNat.testBit u = (l[i + u]?).getD false
  | 0, u, h => absurd h (Nat.not_lt_zero _)
  | j + 1, u, h => by
    have hb := accI_bd l i j
    have hp : (2 : Int) ^ j = ((2 ^ j : Nat) : Int) := by norm_cast
    have hlt : (accI l i j).toNat < 2 ^ j := by
      have := hb.2
      rw [hp] at this
      omega
    have hacc : (accI l i (j + 1)).toNat = if (l[i + j]?).getD false then 2 ^ j + (accI l i j).toNat else (accI l i j).toNat := by
      rw [accI]
      split
      · rw [hp]; omega
      · rw [Int.add_zero]
    rw [hacc]
    by_cases hu : u = j
    · subst hu
      cases hx : (l[i + u]?).getD false
      · rw [if_neg (by simp)]
        exact Nat.testBit_lt_two_pow hlt
      · rw [if_pos rfl, Nat.testBit_two_pow_add_eq, Nat.testBit_lt_two_pow hlt]
        rfl
    · have huj : u < j := by omega
      have ih := accI_bit l i j u huj
      split
      · rw [Nat.testBit_two_pow_add_gt huj]; exact ih
      · exact ih
theorem rbitsI_get (l : List Bool) : ∀ (n k : Nat), k < n → (rbitsI l n)[k]? = some (UInt8.ofNat (accI l (8 * k) 8).toNat)
  | 0, k, h => absurd h (Nat.not_lt_zero _)
  | n + 1, k, h => by
    have hlen : ∀ n, (rbitsI l n).length = n := fun n => by
      induction n with
      | zero => rfl
      | succ n ih => unfold rbitsI; simp [ih]
    rw [rbitsI]
    by_cases hk : k < n
    · rw [List.getElem?_append_left (by rw [hlen]; exact hk)]
      exact rbitsI_get l n k hk
    · have : k = n := by omega
      subst this
      rw [List.getElem?_append_right (by rw [hlen]; exact Nat.le_refl _), hlen, Nat.sub_self]
      rfl
theorem rbits_eq (l : List Bool) : rbitsI l ((l.length + 7) / 8) = bitsB l := by
  have hlen : ∀ n, (rbitsI l n).length = n := fun n => by
    induction n with
    | zero => rfl
    | succ n ih => unfold rbitsI; simp [ih]
  have hb := bitsB_len l
  refine List.ext_getElem? fun k => ?_
  by_cases hk : k < (l.length + 7) / 8
  · have hk2 : k < (bitsB l).length := by rw [hb]; exact hk
    rw [rbitsI_get l _ k hk, List.getElem?_eq_getElem hk2]
    congr 1
    refine byte_ext fun u hu => ?_
    rw [bitB_get _ k u hk2 hu, bitsB_at, bitB_test _ _ hu]
    have h256 : (accI l (8 * k) 8).toNat < 256 := by
      have := accI_bd l (8 * k) 8
      omega
    rw [UInt8.toNat_ofNat', Nat.mod_eq_of_lt h256]
    exact accI_bit l (8 * k) 8 u hu
  · rw [List.getElem?_eq_none (by rw [hlen]; omega), List.getElem?_eq_none (by rw [hb]; omega)]
end Go.Abs.Sig

/-! R16 -/
namespace Go.Abs.Sig
open Go.RowKit Go.Abs
set_option linter.unusedSimpArgs false
set_option linter.unusedVariables false
set_option maxRecDepth 8000
attribute [local irreducible] StCall StYield WPc Weak IterOf Lp2

def rfS (m : Met) (L text : List UInt8) (bits : List Bool) (i : Nat) : S2 := headS 136 ([.bad, .ptr 0 0, .bad, .bad, .bad, .str L, .bad, .bad, .bad, .bad, .bad, .str text, .dat 1 (bools bits) (.cls 71), .int .i64 (i : Int)] ++ List.replicate 122 .bad) [some (.cells 26 (mcells m))] [] none
theorem tooBig2 {v : Int} (h : 0 ≤ v ∧ v < 65536) : tooBig 2 v = false := by
  have h1 : v.fdiv (2 ^ (8 * 2)) = 0 := by
    rw [Int.fdiv_eq_ediv_of_nonneg _ (by decide)]
    show v / 65536 = 0
    omega
  unfold tooBig
  rw [h1]
  rfl
theorem rput2_eq {v : Int} (h : 0 ≤ v ∧ v < 65536) : rput 2 v = (putB 2 v, 0) := by
  have h1 := rput_eq (n := 2) (.inr (.inl rfl)) (v := v) h.1 (by omega)
  rw [h1]
  unfold nput
  rw [show tooBig 2 v = false from tooBig2 h]
  rfl
set_option maxHeartbeats 8000000 in
theorem rbytes_ct (G : Nat → Option (List V)) (m : Met) (hm : OkM m) (hrng : ∀ v ∈ m.2.2, Rng v) (hstr : ∀ v ∈ m.2.2, v.2.length ≤ maxBytes) (H : Heap) : Call2 Go.Proofs.Tryd.prog G 31 [.agg (mcells m)] H fun r H' => H' = H ∧ r = .tup [.str (if mright tbv m ≠ 0 then [] else encM m), .int .i64 (mright tbv m)] := by
  refine Call2.free (fun x hx => by
    simp only [List.mem_cons, List.not_mem_nil, or_false] at hx
    subst hx
    exact mcells_free _) ?_ H
  have hr := rrightT_ct G m hrng (fun v hv => le_maxStr (hstr v hv))
  obtain ⟨e, hee⟩ : ∃ e, mright tbv m = e := ⟨_, rfl⟩
  rw [hee] at hr ⊢
  obtain ⟨c, d, l⟩ := m
  refine stCall2 Go.Proofs.Tryd.func31 rfl (by decide) ?_
  conv => whnf
  refine Call2.mono (hr _) fun r0 H0 h => ?_
  obtain ⟨h1, h2⟩ := h
  rw [h1, h2]
  clear h1 h2 r0 H0
  conv => whnf
  by_cases he : e ≠ 0
  · rw [if_pos he]
    refine br_t (decide_eq_true he) ?_
    conv => whnf
    exact ⟨free_tup2 (.str _) (.im _), rfl⟩
  rw [if_neg he]
  refine br_f (decide_eq_false he) ?_
  have he0 : e = 0 := by omega
  subst he0
  obtain ⟨h1, h2, h3⟩ := (mright_zero _ _).1 hee
  have hf := right_fits hee hm
  have hcd : (0 ≤ c ∧ c < 65536) ∧ 0 ≤ d ∧ d < 65536 := at_range h1
  have hlen := encM_len hee hm
  have hu1 : IntKind.u64.wrap c = c := wrap_u64 (by omega) (by omega)
  have hu2 : IntKind.u64.wrap d = d := wrap_u64 (by omega) (by omega)
  have hp1 := rput_ct G 2 (.inr (.inl rfl)) c
  have hp2 := rput_ct G 2 (.inr (.inl rfl)) d
  rw [rput2_eq hcd.1] at hp1
  rw [rput2_eq hcd.2] at hp2
  have hrof := rof_ct G c d
  rw [rof_eq] at hrof
  unfold encM at hlen ⊢
  change Fits (rowAt c d).2.2.1 l at hf
  change _ ∧ (putB 2 c ++ (putB 2 d ++ goE (rowAt c d).2.2.1 l [])).length ≤ _ at hlen
  generalize hLL : (rowAt c d).2.2.1 = L at *
  conv => whnf
  refine Call2.mono (hrof _) fun r0 H0 h => ?_
  obtain ⟨h1, h2⟩ := h
  rw [h1, h2]
  clear h1 h2 r0 H0
  conv => whnf
  rw [hu1]
  conv => whnf
  refine Call2.mono (hp1 _) fun r0 H0 h => ?_
  obtain ⟨h1, h2⟩ := h
  rw [h1, h2]
  clear h1 h2 r0 H0
  conv => whnf
  rw [hu2]
  conv => whnf
  refine Call2.mono (hp2 _) fun r0 H0 h => ?_
  obtain ⟨h1, h2⟩ := h
  rw [h1, h2]
  clear h1 h2 r0 H0
  conv => whnf
  have hpl : (putB 2 c).length = 2 ∧ (putB 2 d).length = 2 := ⟨by simp [putB], by simp [putB]⟩
  have htot : (putB 2 c ++ putB 2 d) ++ goE L l [] = putB 2 c ++ (putB 2 d ++ goE L l []) := List.append_assoc _ _ _
  have hlen : (putB 2 c ++ (putB 2 d ++ goE L l [])).length ≤ 1099511627776 := hlen.2
  have hL : L.length = l.length := h2
  generalize hA : putB 2 c = A at *
  generalize hB : putB 2 d = B at *
  have hll : l.length ≤ 64 := by rw [← hL, ← hLL]; exact tab_short64 c d
  refine ⟨show ((A.length + B.length : Nat) : Int) ≤ 9223372036854775807 by omega, ?_⟩
  conv => whnf
  intro hw
  generalize hT : A ++ (B ++ goE L l []) = T at *
  refine wpc_loop2 (fun n1 s1 => ∃ (i : Nat) (text : List UInt8) (bits : List Bool), i ≤ L.length ∧ n1 = L.length - i ∧ s1 = rfS (c, d, l) L text bits i ∧ text ++ goE (L.drop i) (l.drop i) bits = T ∧ (bits = [] ∨ L[i]? = some 98) ∧ bits.length ≤ i) L.length (rfS (c, d, l) L (A ++ B) [] 0) ?_ ⟨0, A ++ B, [], Nat.zero_le _, rfl, rfl, htot, .inl rfl, Nat.le_refl _⟩ ?_ ?_
  · exact weak2 hw rfl ⟨.ptr 0 0 (show 0 < 1 by decide), .str _, .str _, .nil _ _ _ _ (.inl rfl), .im _, trivial⟩ (.cons (.free (mcells_free' (c, d, l))) (.nil _)) (fun id hid => by cases hid) rfl (fun id hid => by cases hid)
  · rintro n1 s1 ⟨i, text, bits, _, _, rfl, _⟩
    exact ⟨⟨Nat.le_refl 136, fun x hx => by cases hx⟩, rfl, Nat.le_refl _, rfl⟩
  rintro n1 s1 ⟨i, text, bits, hi, rfl, rfl, hg, hb, hbl⟩
  have htl : text.length ≤ 1099511627776 := by
    have := congrArg List.length hg
    rw [List.length_append] at this
    omega
  by_cases hil : i < L.length
  · obtain ⟨b, hbb⟩ : ∃ b, L[i]? = some b := ⟨_, List.getElem?_eq_getElem hil⟩
    obtain ⟨v, hv⟩ : ∃ v, l[i]? = some v := ⟨_, List.getElem?_eq_getElem (by omega)⟩
    have hd0 : (true && true && decide ((0 : Int) ≤ (i : Int))) = true := by simp
    have hd1 : decide ((0 : Int) ≤ (i : Int)) = true := decide_eq_true (by omega)
    have hgv : (vals l)[Int.toNat (i : Int)]? = some (vcells v) := vals_get hv
    have hgb : L[Int.toNat (i : Int)]? = some b := hbb
    have hwi : IntKind.i64.wrap ((i : Int) + 1) = ((i + 1 : Nat) : Int) := by rw [wrap_i64 (by omega) (by omega)]; rfl
    conv => whnf
    refine br_t (decide_eq_true (by omega)) ?_
    conv => whnf
    refine grd_intro hd0 (optK_intro hgv ?_)
    conv => whnf
    refine grd_intro hd1 (optK_intro hgb ?_)
    have hdL : L.drop i = b :: L.drop (i + 1) := by
      rw [List.drop_eq_getElem_cons hil]
      congr 1
      exact Option.some.inj ((List.getElem?_eq_getElem hil).symm.trans hbb)
    have hdl : l.drop i = v :: l.drop (i + 1) := by
      rw [List.drop_eq_getElem_cons (by omega)]
      congr 1
      exact Option.some.inj ((List.getElem?_eq_getElem (by omega)).symm.trans hv)
    rw [hdL, hdl] at hg
    have hlet := hf.2.1 b (List.mem_of_getElem? hbb)
    have hvb : v.2.length ≤ maxBytes := hstr v (List.mem_of_getElem? hv)
    have hvr := hrng v (List.mem_of_getElem? hv)
    by_cases h98 : b = 98
    · subst h98
      have hbo : bools bits ++ [[.bool (decide (v.1 = 1))]] = bools (bits ++ [decide (v.1 = 1)]) := by simp [bools]
      have hg' : text ++ goE (L.drop (i + 1)) (l.drop (i + 1)) (bits ++ [decide (v.1 = 1)]) = T := by
        rw [← hg, goE, if_pos rfl]
      have hbl' : (bits ++ [decide (v.1 = 1)]).length ≤ i + 1 := by simp; omega
      have hrb := rbits_ct G (bits ++ [decide (v.1 = 1)]) (by omega)
      rw [rbits_eq, ← hbo] at hrb
      have hbs := bools_len bits
      conv => whnf
      refine ⟨.inr rfl, .inr rfl, ?_, ?_, ?_, ?_⟩
      · intro r hr
        obtain rfl := List.mem_singleton.1 hr
        rfl
      · show ((bools bits).length + 1) * 1 ≤ maxBytes
        unfold maxBytes; omega
      · show (bools bits).length + 1 ≤ maxBytes
        unfold maxBytes; omega
      conv => whnf
      rw [hwi]
      have hflush : (∀ c, (L.drop (i + 1))[0]? = some c → c ≠ 98) → (text ++ bitsB (bits ++ [decide (v.1 = 1)])) ++ goE (L.drop (i + 1)) (l.drop (i + 1)) [] = T := fun h => by
        rw [← hg', goE_flush _ _ (bits ++ [decide (v.1 = 1)]) h, List.append_assoc]
      by_cases hie : i + 1 = L.length
      · have hstep := hflush (fun c hc => by
          rw [List.getElem?_drop, List.getElem?_eq_none (by omega)] at hc; cases hc)
        have htl2 : text.length + (bitsB (bits ++ [decide (v.1 = 1)])).length ≤ 1099511627776 := by
          have := congrArg List.length hstep
          rw [List.length_append, List.length_append] at this
          omega
        rw [show decide (((i + 1 : Nat) : Int) = (L.length : Int)) = true from decide_eq_true (by omega)]
        conv => whnf
        refine Call2.mono (hrb _) fun r0 H0 h => ?_
        obtain ⟨h1, h2⟩ := h
        rw [h1, h2]
        clear h1 h2 r0 H0
        conv => whnf
        refine ⟨show ((text.length + (bitsB (bits ++ [decide (v.1 = 1)])).length : Nat) : Int) ≤ 9223372036854775807 by omega, ?_⟩
        conv => whnf
        intro hwN
        refine ⟨L.length - (i + 1), rfS (c, d, l) L (text ++ bitsB (bits ++ [decide (v.1 = 1)])) [] (i + 1), by omega, ?_, i + 1, _, [], by omega, rfl, rfl, hstep, .inl rfl, Nat.zero_le _⟩
        exact weak2 hwN rfl ⟨.ptr 0 0 (show 0 < 1 by decide), .str _, .str _, .nil _ _ _ _ (.inl rfl), .int hwi, trivial⟩ (.cons (.free (mcells_free' (c, d, l))) (.nil _)) (fun id hid => by cases hid) rfl (fun id hid => by cases hid)
      · obtain ⟨b2, hb2⟩ : ∃ b2, L[i + 1]? = some b2 := ⟨_, List.getElem?_eq_getElem (by omega)⟩
        have hgb2 : L[Int.toNat ((i + 1 : Nat) : Int)]? = some b2 := hb2
        have hd2 : decide ((0 : Int) ≤ ((i + 1 : Nat) : Int)) = true := decide_eq_true (by omega)
        rw [show decide (((i + 1 : Nat) : Int) = (L.length : Int)) = false from decide_eq_false (by omega)]
        conv => whnf
        rw [hwi]
        conv => whnf
        refine grd_intro hd2 (optK_intro hgb2 ?_)
        conv => whnf
        by_cases h98 : b2 = 98
        · rw [show decide ((b2.toNat : Int) ≠ 98) = false from decide_eq_false (by rw [h98]; decide)]
          conv => whnf
          intro hwN
          refine ⟨L.length - (i + 1), rfS (c, d, l) L text (bits ++ [decide (v.1 = 1)]) (i + 1), by omega, ?_, i + 1, _, _, by omega, rfl, rfl, hg', .inr (by rw [hb2, h98]), hbl'⟩
          unfold rfS
          rw [← hbo]
          exact weak2 hwN rfl ⟨.ptr 0 0 (show 0 < 1 by decide), .str _, .str _, .dat _ _ _, .int hwi, trivial⟩ (.cons (.free (mcells_free' (c, d, l))) (.nil _)) (fun id hid => by cases hid) rfl (fun id hid => by cases hid)
        · have hne : (b2.toNat : Int) ≠ 98 := fun h => h98 (by
            have := of_decide_eq_true ((u8_eq (c := b2) (n := 98) (by decide)).symm.trans (decide_eq_true (show (b2.toNat : Int) = ((98 : Nat) : Int) from h)))
            exact this)
          have hstep := hflush (fun c hc => by
            rw [List.getElem?_drop, Nat.add_zero, hb2] at hc
            cases hc
            exact h98)
          have htl2 : text.length + (bitsB (bits ++ [decide (v.1 = 1)])).length ≤ 1099511627776 := by
            have := congrArg List.length hstep
            rw [List.length_append, List.length_append] at this
            omega
          rw [show decide ((b2.toNat : Int) ≠ 98) = true from decide_eq_true hne]
          conv => whnf
          refine Call2.mono (hrb _) fun r0 H0 h => ?_
          obtain ⟨h1, h2⟩ := h
          rw [h1, h2]
          clear h1 h2 r0 H0
          conv => whnf
          refine ⟨show ((text.length + (bitsB (bits ++ [decide (v.1 = 1)])).length : Nat) : Int) ≤ 9223372036854775807 by omega, ?_⟩
          conv => whnf
          intro hwN
          refine ⟨L.length - (i + 1), rfS (c, d, l) L (text ++ bitsB (bits ++ [decide (v.1 = 1)])) [] (i + 1), by omega, ?_, i + 1, _, [], by omega, rfl, rfl, hstep, .inl rfl, Nat.zero_le _⟩
          exact weak2 hwN rfl ⟨.ptr 0 0 (show 0 < 1 by decide), .str _, .str _, .nil _ _ _ _ (.inl rfl), .int hwi, trivial⟩ (.cons (.free (mcells_free' (c, d, l))) (.nil _)) (fun id hid => by cases hid) rfl (fun id hid => by cases hid)
    · have hbn : bits = [] := by
        rcases hb with h | h
        · exact h
        · rw [h] at hbb; exact absurd (Option.some.inj hbb).symm h98
      subst hbn
      have hstep : (text ++ layV b v) ++ goE (L.drop (i + 1)) (l.drop (i + 1)) [] = T := by
        rw [← hg]
        rw [goE, if_neg h98, bitsB_nil, List.nil_append, List.append_assoc]
      have htl2 : text.length + (layV b v).length ≤ 1099511627776 := by
        have := congrArg List.length hstep
        rw [List.length_append, List.length_append] at this
        omega
      conv => whnf
      rw [show decide ((b.toNat : Int) = 98) = false from (u8_eq (n := 98) (by decide)).trans (decide_eq_false h98)]
      have hput : ∀ n : Nat, (n = 1 ∨ n = 2 ∨ n = 4 ∨ n = 8) → ∀ H, Call2 Go.Proofs.Tryd.prog G 51 [.int .i64 (n : Int), .int .u64 v.1] H fun r H' => H' = H ∧ r = .tup [.str (nput n v.1).1, .int .i64 (nput n v.1).2] := fun n hn H => by
        have := rput_ct G n hn v.1 H
        rwa [rput_eq hn hvr.1 hvr.2] at this
      unfold IsLet at hlet
      rcases hlet with rfl | rfl | rfl | rfl | rfl | rfl | rfl | rfl
      · rw [show (layV 111 v) = (nput 1 v.1).1 from rfl] at hstep htl2
        conv => whnf
        rw [hgb]
        conv => whnf
        rw [hgb]
        conv => whnf
        rw [hgb]
        conv => whnf
        intro hwD
        refine wpc_draw2 11 (by rfl) (by decide) (by kernel_rfl) hwD ?_
        conv => whnf
        refine grd_intro hd1 (optK_intro hgb ?_)
        conv => whnf
        refine ⟨_, fun _ _ => rwidth_ct G 111 _, ?_⟩
        conv => whnf
        refine ⟨_, fun _ _ => hput 1 (by decide) _, ?_⟩
        conv => whnf
        refine ⟨show ((text.length + ((nput 1 v.1).1).length : Nat) : Int) ≤ 9223372036854775807 by omega, ?_⟩
        conv => whnf
        intro hwN
        refine ⟨L.length - (i + 1), rfS (c, d, l) L _ _ (i + 1), by omega, ?_, i + 1, _, _, by omega, rfl, rfl, hstep, ?_, ?_⟩
        · exact weak2 hwN rfl ⟨.ptr 0 0 (show 0 < 1 by decide), .str _, .str _, .dat _ _ _, .int hwi, trivial⟩ (.cons (.free (mcells_free' (c, d, l))) (.nil _)) (fun id hid => by cases hid) rfl (fun id hid => by cases hid)
        · exact .inl rfl
        · exact Nat.zero_le _
      · rw [show (layV 115 v) = (nput 2 v.1).1 from rfl] at hstep htl2
        conv => whnf
        rw [hgb]
        conv => whnf
        rw [hgb]
        conv => whnf
        rw [hgb]
        conv => whnf
        intro hwD
        refine wpc_draw2 11 (by rfl) (by decide) (by kernel_rfl) hwD ?_
        conv => whnf
        refine grd_intro hd1 (optK_intro hgb ?_)
        conv => whnf
        refine ⟨_, fun _ _ => rwidth_ct G 115 _, ?_⟩
        conv => whnf
        refine ⟨_, fun _ _ => hput 2 (by decide) _, ?_⟩
        conv => whnf
        refine ⟨show ((text.length + ((nput 2 v.1).1).length : Nat) : Int) ≤ 9223372036854775807 by omega, ?_⟩
        conv => whnf
        intro hwN
        refine ⟨L.length - (i + 1), rfS (c, d, l) L _ _ (i + 1), by omega, ?_, i + 1, _, _, by omega, rfl, rfl, hstep, ?_, ?_⟩
        · exact weak2 hwN rfl ⟨.ptr 0 0 (show 0 < 1 by decide), .str _, .str _, .dat _ _ _, .int hwi, trivial⟩ (.cons (.free (mcells_free' (c, d, l))) (.nil _)) (fun id hid => by cases hid) rfl (fun id hid => by cases hid)
        · exact .inl rfl
        · exact Nat.zero_le _
      · rw [show (layV 108 v) = (nput 4 v.1).1 from rfl] at hstep htl2
        conv => whnf
        rw [hgb]
        conv => whnf
        rw [hgb]
        conv => whnf
        rw [hgb]
        conv => whnf
        intro hwD
        refine wpc_draw2 11 (by rfl) (by decide) (by kernel_rfl) hwD ?_
        conv => whnf
        refine grd_intro hd1 (optK_intro hgb ?_)
        conv => whnf
        refine ⟨_, fun _ _ => rwidth_ct G 108 _, ?_⟩
        conv => whnf
        refine ⟨_, fun _ _ => hput 4 (by decide) _, ?_⟩
        conv => whnf
        refine ⟨show ((text.length + ((nput 4 v.1).1).length : Nat) : Int) ≤ 9223372036854775807 by omega, ?_⟩
        conv => whnf
        intro hwN
        refine ⟨L.length - (i + 1), rfS (c, d, l) L _ _ (i + 1), by omega, ?_, i + 1, _, _, by omega, rfl, rfl, hstep, ?_, ?_⟩
        · exact weak2 hwN rfl ⟨.ptr 0 0 (show 0 < 1 by decide), .str _, .str _, .dat _ _ _, .int hwi, trivial⟩ (.cons (.free (mcells_free' (c, d, l))) (.nil _)) (fun id hid => by cases hid) rfl (fun id hid => by cases hid)
        · exact .inl rfl
        · exact Nat.zero_le _
      · rw [show (layV 113 v) = (nput 8 v.1).1 from rfl] at hstep htl2
        conv => whnf
        rw [hgb]
        conv => whnf
        rw [hgb]
        conv => whnf
        rw [hgb]
        conv => whnf
        intro hwD
        refine wpc_draw2 11 (by rfl) (by decide) (by kernel_rfl) hwD ?_
        conv => whnf
        refine grd_intro hd1 (optK_intro hgb ?_)
        conv => whnf
        refine ⟨_, fun _ _ => rwidth_ct G 113 _, ?_⟩
        conv => whnf
        refine ⟨_, fun _ _ => hput 8 (by decide) _, ?_⟩
        conv => whnf
        refine ⟨show ((text.length + ((nput 8 v.1).1).length : Nat) : Int) ≤ 9223372036854775807 by omega, ?_⟩
        conv => whnf
        intro hwN
        refine ⟨L.length - (i + 1), rfS (c, d, l) L _ _ (i + 1), by omega, ?_, i + 1, _, _, by omega, rfl, rfl, hstep, ?_, ?_⟩
        · exact weak2 hwN rfl ⟨.ptr 0 0 (show 0 < 1 by decide), .str _, .str _, .dat _ _ _, .int hwi, trivial⟩ (.cons (.free (mcells_free' (c, d, l))) (.nil _)) (fun id hid => by cases hid) rfl (fun id hid => by cases hid)
        · exact .inl rfl
        · exact Nat.zero_le _
      · exact absurd rfl h98
      · rw [show (layV 83 v) = (layS 1 v.2).1 from rfl] at hstep htl2
        conv => whnf
        rw [hgb]
        conv => whnf
        refine Call2.mono (rlayS_ct G v.2 hvb _) fun r0 H0 h => ?_
        obtain ⟨h1, h2⟩ := h
        rw [h1, h2]
        clear h1 h2 r0 H0
        conv => whnf
        refine ⟨show ((text.length + ((layS 1 v.2).1).length : Nat) : Int) ≤ 9223372036854775807 by omega, ?_⟩
        conv => whnf
        intro hwN
        refine ⟨L.length - (i + 1), rfS (c, d, l) L _ _ (i + 1), by omega, ?_, i + 1, _, _, by omega, rfl, rfl, hstep, ?_, ?_⟩
        · exact weak2 hwN rfl ⟨.ptr 0 0 (show 0 < 1 by decide), .str _, .str _, .dat _ _ _, .int hwi, trivial⟩ (.cons (.free (mcells_free' (c, d, l))) (.nil _)) (fun id hid => by cases hid) rfl (fun id hid => by cases hid)
        · exact .inl rfl
        · exact Nat.zero_le _
      · rw [show (layV 76 v) = (layS 4 v.2).1 from rfl] at hstep htl2
        conv => whnf
        rw [hgb]
        conv => whnf
        rw [hgb]
        conv => whnf
        refine Call2.mono (rlayL_ct G v.2 hvb _) fun r0 H0 h => ?_
        obtain ⟨h1, h2⟩ := h
        rw [h1, h2]
        clear h1 h2 r0 H0
        conv => whnf
        refine ⟨show ((text.length + ((layS 4 v.2).1).length : Nat) : Int) ≤ 9223372036854775807 by omega, ?_⟩
        conv => whnf
        intro hwN
        refine ⟨L.length - (i + 1), rfS (c, d, l) L _ _ (i + 1), by omega, ?_, i + 1, _, _, by omega, rfl, rfl, hstep, ?_, ?_⟩
        · exact weak2 hwN rfl ⟨.ptr 0 0 (show 0 < 1 by decide), .str _, .str _, .dat _ _ _, .int hwi, trivial⟩ (.cons (.free (mcells_free' (c, d, l))) (.nil _)) (fun id hid => by cases hid) rfl (fun id hid => by cases hid)
        · exact .inl rfl
        · exact Nat.zero_le _
      · rw [show (layV 84 v) = v.2 from rfl] at hstep htl2
        conv => whnf
        rw [hgb]
        conv => whnf
        rw [hgb]
        conv => whnf
        rw [hgb]
        conv => whnf
        refine ⟨show ((text.length + v.2.length : Nat) : Int) ≤ 9223372036854775807 by omega, ?_⟩
        conv => whnf
        intro hwN
        refine ⟨L.length - (i + 1), rfS (c, d, l) L _ _ (i + 1), by omega, ?_, i + 1, _, _, by omega, rfl, rfl, hstep, ?_, ?_⟩
        · exact weak2 hwN rfl ⟨.ptr 0 0 (show 0 < 1 by decide), .str _, .str _, .dat _ _ _, .int hwi, trivial⟩ (.cons (.free (mcells_free' (c, d, l))) (.nil _)) (fun id hid => by cases hid) rfl (fun id hid => by cases hid)
        · exact .inl rfl
        · exact Nat.zero_le _
  · have hie : i = L.length := by omega
    have hbn : bits = [] := by
      rcases hb with h | h
      · exact h
      · rw [hie, List.getElem?_eq_none (Nat.le_refl _)] at h; cases h
    have hte : text = T := by
      rw [hbn, hie, List.drop_length] at hg
      have : goE [] (l.drop L.length) [] = [] := by unfold goE; exact bitsB_nil
      rw [this, List.append_nil] at hg
      exact hg
    conv => whnf
    refine br_f (decide_eq_false (by omega)) ?_
    conv => whnf
    rw [← hte]
    exact ⟨free_tup2 (.str _) (.im _), rfl⟩
end Go.Abs.Sig

/-! R15 -/
namespace Go.Abs.Sig
open Go.RowKit Go.Abs
set_option linter.unusedSimpArgs false
set_option linter.unusedVariables false
set_option maxRecDepth 8000
attribute [local irreducible] StCall StYield WPc Weak IterOf Lp2

def eqS (l l' : List Val') (j : Nat) : S2 := headS 26 ([.dat 2 (vals l) .no, .dat 2 (vals l') .no, .bad, .bad, .bad, .bad, .bad, .bad, .bad, .bad, .bad, .bad, .int .i64 (l.length : Int), .int .i64 (j : Int)] ++ List.replicate 12 .bad) [] [] none
theorem eqvals_ct (G : Nat → Option (List V)) (l l' : List Val') (hla : l.length ≤ maxLen) (H : Heap) : Call2 Go.Proofs.Tryd.prog G 58 [.dat 2 (vals l) .no, .dat 2 (vals l') .no] H fun r H' => H' = H ∧ r = .bool (decide (l = l')) := by
  refine Call2.free (fun x hx => by
    simp only [List.mem_cons, List.not_mem_nil, or_false] at hx
    rcases hx with rfl | rfl
    · exact .dat _ _ _ (by simp)
    · exact .dat _ _ _ (by simp)) ?_ H
  have hvl : (vals l).length = l.length := by simp [vals]
  have hvl' : (vals l').length = l'.length := by simp [vals]
  have hla' : l.length ≤ 9223372036854775807 := hla
  refine stCall2 Go.Proofs.Tryd.func58 rfl (by decide) ?_
  conv => whnf
  rw [hvl, hvl']
  by_cases hlen : l.length = l'.length
  · refine br_f (decide_eq_false (by omega)) ?_
    conv => whnf
    rw [hvl]
    intro hw
    refine wpc_loop2 (fun n1 s1 => ∃ j : Nat, j ≤ l.length ∧ n1 = l.length - j ∧ s1 = eqS l l' j ∧ l.take j = l'.take j) l.length (eqS l l' 0) ?_ ⟨0, by omega, rfl, rfl, rfl⟩ ?_ ?_
    · exact weak2 hw rfl ⟨.dat _ _ _, .dat _ _ _, .im _, .im _, trivial⟩ (.nil _) (fun id hid => by cases hid) rfl (fun id hid => by cases hid)
    · rintro n1 s1 ⟨j, _, _, rfl, _⟩
      exact ⟨⟨Nat.le_refl 26, fun x hx => by cases hx⟩, rfl, Nat.le_refl _, rfl⟩
    · rintro n1 s1 ⟨j, hj, rfl, rfl, hinv⟩
      by_cases hjl : j < l.length
      · have hd0 : (true && true && decide ((0 : Int) ≤ (j : Int))) = true := by simp
        have hg1 : (vals l)[Int.toNat (j : Int)]? = some (vcells l[j]) := vals_get (List.getElem?_eq_getElem hjl)
        have hg2 : (vals l')[Int.toNat (j : Int)]? = some (vcells (l'[j]'(by omega))) := vals_get (List.getElem?_eq_getElem (by omega))
        have hwj : IntKind.i64.wrap ((j : Int) + 1) = ((j + 1 : Nat) : Int) := by rw [wrap_i64 (by omega) (by omega)]; rfl
        have ht1 : l.take (j + 1) = l.take j ++ [l[j]] := by rw [List.take_succ_eq_append_getElem hjl]
        have ht2 : l'.take (j + 1) = l'.take j ++ [l'[j]'(by omega)] := by rw [List.take_succ_eq_append_getElem (by omega)]
        conv => whnf
        refine br_t (decide_eq_true (by omega)) ?_
        conv => whnf
        intro hw2
        refine wpc_draw2 9 (by rfl) (by decide) (by decide) hw2 ?_
        conv => whnf
        refine grd_intro hd0 (optK_intro hg1 ?_)
        conv => whnf
        refine grd_intro hd0 (optK_intro hg2 ?_)
        conv => whnf
        refine EqT.neq eqT32 flat32 (eq32 _ _) ?_
        conv => whnf
        refine br_intro (fun hne => ?_) (fun heq => ?_)
        · have hne' : (!(decide (l[j] = l'[j]'(by omega)))) = true := hne
          have hdiff : decide (l = l') = false := by
            simp only [decide_eq_false_iff_not]
            intro h
            subst h
            simp at hne'
          conv => whnf
          refine ⟨.im _, ?_⟩
          rw [hdiff]
          rfl
        · have heq' : (!(decide (l[j] = l'[j]'(by omega)))) = false := heq
          have hsame : l[j] = l'[j]'(by omega) := by simpa using heq'
          conv => whnf
          intro hw3
          refine ⟨l.length - (j + 1), eqS l l' (j + 1), by omega, ?_, j + 1, by omega, rfl, rfl, ?_⟩
          · exact weak2 hw3 rfl ⟨.dat _ _ _, .dat _ _ _, .im _, .int hwj, trivial⟩ (.nil _) (fun id hid => by cases hid) rfl (fun id hid => by cases hid)
          · rw [ht1, ht2, hinv, hsame]
      · have hje : j = l.length := by omega
        have hsame : decide (l = l') = true := by
          rw [hje, List.take_length, hlen, List.take_length] at hinv
          simp [hinv]
        conv => whnf
        refine br_f (decide_eq_false (by omega)) ?_
        conv => whnf
        refine ⟨.im _, ?_⟩
        rw [hsame]
        rfl
  · refine br_t (decide_eq_true (by omega)) ?_
    conv => whnf
    refine ⟨.im _, ?_⟩
    rw [decide_eq_false (fun h => hlen (by rw [h]))]
    rfl
theorem msame_ct (G : Nat → Option (List V)) (a b : Met) (hla : a.2.2.length ≤ maxLen) (H : Heap) : Call2 Go.Proofs.Tryd.prog G 34 [.agg (mcells a), .agg (mcells b)] H fun r H' => H' = H ∧ r = .bool (decide (a = b)) := by
  refine Call2.free same_free ?_ H
  obtain ⟨c, d, l⟩ := a
  obtain ⟨c', d', l'⟩ := b
  have he := eqvals_ct G l l' hla
  refine stCall2 Go.Proofs.Tryd.func34 rfl (by decide) ?_
  conv => whnf
  by_cases hc : c = c'
  · refine br_t (decide_eq_true hc) ?_
    conv => whnf
    by_cases hd : d = d'
    · rw [show decide (d = d') = true from decide_eq_true hd]
      conv => whnf
      refine Call2.mono (he _) fun r0 H0 h => ?_
      obtain ⟨h1, h2⟩ := h
      rw [h1, h2]
      clear h1 h2 r0 H0
      conv => whnf
      subst hc
      subst hd
      refine ⟨.im _, ?_⟩
      have e1 : decide (((c, d, l) : Met) = (c, d, l')) = decide (l = l') := decide_eq_decide.2 (by simp)
      rw [e1]
      cases decide (l = l') <;> rfl
    · rw [show decide (d = d') = false from decide_eq_false hd]
      conv => whnf
      refine ⟨.im _, ?_⟩
      rw [decide_eq_false (fun h => hd (congrArg (fun x => x.2.1) h))]
      rfl
  · refine br_f (decide_eq_false hc) ?_
    conv => whnf
    refine ⟨.im _, ?_⟩
    rw [decide_eq_false (fun h => hc (congrArg (fun x => x.1) h))]
    rfl
theorem vw_make {n es : Nat} {fl : Fl} {a b e : Int} {l : List Val'} (h : es = 2 ∨ (l = [] ∧ fl = .tight)) : VW n (.tup [.agg [.int .i64 a, .int .i64 b, .dat es (vals l) fl], .int .i64 e]) (.tup [.agg (mcells (a, b, l)), .int .i64 e]) := by
  refine .tup _ _ rfl fun i v v' h1 h2 => ?_
  match i, h1, h2 with
  | 0, h1, h2 =>
    cases h1; cases h2
    refine .agg _ _ rfl fun i v v' h1 h2 => ?_
    match i, h1, h2 with
    | 0, h1, h2 => cases h1; cases h2; exact .im _
    | 1, h1, h2 => cases h1; cases h2; exact .im _
    | 2, h1, h2 =>
      cases h1; cases h2
      rcases h with rfl | ⟨rfl, rfl⟩
      · exact .no _ _ _
      · exact .nil _ _ _ _ (.inl rfl)
    | i + 3, h1, h2 => simp at h1
  | 1, h1, h2 => cases h1; cases h2; exact .im _
  | i + 2, h1, h2 => simp at h1
theorem make_free {a b e : Int} {l : List Val'} : (V.tup [.agg (mcells (a, b, l)), .int .i64 e]).Free := .tup _ fun v hv => by
  simp only [List.mem_cons, List.not_mem_nil, or_false] at hv
  rcases hv with rfl | rfl
  · exact mcells_free _
  · exact .im _
theorem make_ct (G : Nat → Option (List V)) (hG : G 1 = some wV) (c d : Int) (l : List Val') (hm : ∀ v ∈ l, v.2.length ≤ maxStr) (H : Heap) : Call2 Go.Proofs.Tryd.prog G 33 [.int .i64 c, .int .i64 d, .dat 2 (vals l) .no] H fun r H' => H' = H ∧
    r = .tup [.agg (mcells (if mright tbv (c, d, l) ≠ 0 then (0, 0, []) else (c, d, l))), .int .i64 (mright tbv (c, d, l))] := by
  refine Call2.free (fun x hx => by
    simp only [List.mem_cons, List.not_mem_nil, or_false] at hx
    rcases hx with rfl | rfl | rfl
    · exact .im _
    · exact .im _
    · exact .dat _ _ _ (by simp)) ?_ H
  have hr := mrightT_ct G hG (c, d, l) hm
  generalize mright tbv (c, d, l) = e at hr ⊢
  refine Call2.weakR ?_
  refine stCall2 Go.Proofs.Tryd.func33 rfl (by decide) ?_
  conv => whnf
  refine Call2.mono (hr _) fun r0 H0 h => ?_
  obtain ⟨h1, h2⟩ := h
  rw [h1, h2]
  clear h1 h2 r0 H0
  conv => whnf
  by_cases he : e ≠ 0
  · rw [if_pos he]
    refine br_t (decide_eq_true he) ?_
    conv => whnf
    exact ⟨_, vw_make (l := []) (.inr ⟨rfl, rfl⟩), make_free, rfl⟩
  · rw [if_neg he]
    refine br_f (decide_eq_false he) ?_
    conv => whnf
    have he0 : e = 0 := by omega
    subst he0
    exact ⟨_, vw_make (l := l) (.inl rfl), make_free, rfl⟩
end Go.Abs.Sig

/-! R13 -/
namespace Go.Abs.Sig
open Go.RowKit Go.Abs
set_option linter.unusedSimpArgs false
set_option linter.unusedVariables false
set_option maxRecDepth 8000
attribute [local irreducible] StCall StYield WPc Weak IterOf Lp2

def rtA (s : List UInt8) (n q : Nat) : S2 := headS 62 ([.str s, .int .i64 (n : Int), .bad, .bad, .bad, .bad, .bad, .int .i64 (q : Int)] ++ List.replicate 54 .bad) [] [] none
def rtB (s : List UInt8) (n m i : Nat) : S2 := headS 62 ([.str s, .int .i64 (n : Int), .bad, .bad, .bad, .bad, .bad, .int .i64 (m : Int), .dat 1 (bools ((List.range (min (8 * i) n)).map (bitAt s))) (.cls 52), .int .i64 (i : Int)] ++ List.replicate 52 .bad) [] [] none
def rtC (s : List UInt8) (n m i j : Nat) (b : UInt8) : S2 := headS 62 ([.str s, .int .i64 (n : Int), .bad, .bad, .bad, .bad, .bad, .int .i64 (m : Int), .dat 1 (bools ((List.range (min (8 * i + j) n)).map (bitAt s))) (.cls 52), .int .i64 (i : Int), .int .i64 ((b.toNat / 2 ^ j : Nat) : Int), .int .i64 (j : Int)] ++ List.replicate 50 .bad) [] [] none

theorem rtakeBits_ct (G : Nat → Option (List V)) (s : List UInt8) (n : Nat) (hn : n ≤ 64) (H : Heap) : Call2 Go.Proofs.Tryd.prog G 57 [.str s, .int .i64 (n : Int)] H fun r H' => H' = H ∧ r = tbV (tbits s n) := by
  refine Call2.free (fun x hx => by
    simp only [List.mem_cons, List.not_mem_nil, or_false] at hx
    rcases hx with rfl | rfl
    · exact .str _
    · exact .im _) ?_ H
  refine Call2.weakR ?_
  refine stCall2 Go.Proofs.Tryd.func57 rfl (by decide) ?_
  unfold tbits
  have hmn : manyB n ≤ 8 ∧ n ≤ 8 * manyB n ∧ 8 * manyB n < n + 8 := by unfold manyB; omega
  generalize manyB n = m at hmn
  conv => whnf
  rw [show decide ((n : Int) < 0) = false from decide_eq_false (by omega)]
  conv => whnf
  refine br_f (decide_eq_false (by omega)) ?_
  conv => whnf
  intro hw
  refine wpc_loop2 (fun n1 s1 => ∃ q : Nat, q ≤ m ∧ n1 = m - q ∧ s1 = rtA s n q) m (rtA s n 0) ?_ ⟨0, by omega, rfl, rfl⟩ ?_ ?_
  · exact weak2 hw rfl ⟨.str _, .im _, .im _, trivial⟩ (.nil _) (fun id hid => by cases hid) rfl (fun id hid => by cases hid)
  · rintro n1 s1 ⟨q, _, _, rfl⟩
    exact ⟨⟨Nat.le_refl 62, fun x hx => by cases hx⟩, rfl, Nat.le_refl _, rfl⟩
  rintro n1 s1 ⟨q, hq, rfl, rfl⟩
  have h8q : IntKind.i64.wrap (8 * (q : Int)) = ((8 * q : Nat) : Int) := by rw [wrap_i64 (by omega) (by omega)]; omega
  by_cases hqm : 8 * q < n
  · have hwq : IntKind.i64.wrap ((q : Int) + 1) = ((q + 1 : Nat) : Int) := by rw [wrap_i64 (by omega) (by omega)]; rfl
    conv => whnf
    rw [h8q]
    refine br_t (decide_eq_true (by omega)) ?_
    conv => whnf
    intro hw2
    refine ⟨m - (q + 1), rtA s n (q + 1), by omega, ?_, q + 1, by omega, rfl, rfl⟩
    exact weak2 hw2 rfl ⟨.str _, .im _, .int hwq, trivial⟩ (.nil _) (fun id hid => by cases hid) rfl (fun id hid => by cases hid)
  have hqe : q = m := by omega
  subst hqe
  conv => whnf
  rw [h8q]
  refine br_f (decide_eq_false (by omega)) ?_
  conv => whnf
  by_cases hs : s.length < q
  · refine br_t (decide_eq_true (by omega)) ?_
    conv => whnf
    rw [if_pos hs]
    exact ⟨_, tbV_vw (.inr ⟨rfl, rfl, rfl⟩), tbV_free _, rfl⟩
  refine br_f (decide_eq_false (by omega)) ?_
  rw [if_neg hs]
  conv => whnf
  intro hw3
  refine wpc_loop2 (fun n1 s1 => ∃ i : Nat, i ≤ q ∧ n1 = q - i ∧ s1 = rtB s n q i ∧ ∀ k, n ≤ k → k < 8 * i → bitAt s k = false) q (rtB s n q 0) ?_ ⟨0, by omega, rfl, rfl, fun k _ h => by omega⟩ ?_ ?_
  · exact weak2 hw3 rfl ⟨.str _, .im _, .im _, .nil _ _ _ _ (.inl rfl), .im _, trivial⟩ (.nil _) (fun id hid => by cases hid) rfl (fun id hid => by cases hid)
  · rintro n1 s1 ⟨i, _, _, rfl, _⟩
    exact ⟨⟨Nat.le_refl 62, fun x hx => by cases hx⟩, rfl, Nat.le_refl _, rfl⟩
  rintro n1 s1 ⟨i, hi, rfl, rfl, hinv⟩
  by_cases hil : i < q
  · obtain ⟨b, hb⟩ := str_get (s := s) (j := i) (by omega)
    have hgetb : s[Int.toNat ((i : Nat) : Int)]? = some b := hb
    have hd0 : decide (0 ≤ ((i : Nat) : Int)) = true := decide_eq_true (by omega)
    have hbl := b.toNat_lt
    have h8i : IntKind.i64.wrap (8 * (i : Int)) = ((8 * i : Nat) : Int) := by rw [wrap_i64 (by omega) (by omega)]; omega
    have hwi : IntKind.i64.wrap ((i : Int) + 1) = ((i + 1 : Nat) : Int) := by rw [wrap_i64 (by omega) (by omega)]; rfl
    have hwb : IntKind.i64.wrap (b.toNat : Int) = ((b.toNat / 2 ^ 0 : Nat) : Int) := by rw [wrap_i64 (by omega) (by omega)]; simp
    conv => whnf
    refine br_t (decide_eq_true (by omega)) ?_
    conv => whnf
    refine grd_intro hd0 (optK_intro hgetb ?_)
    conv => whnf
    intro hw4
    refine wpc_loop2 (fun n1 s1 => ∃ j : Nat, j ≤ 8 ∧ n1 = 8 - j ∧ s1 = rtC s n q i j b ∧ ∀ k, n ≤ k → k < 8 * i + j → bitAt s k = false) 8 (rtC s n q i 0 b) ?_ ⟨0, by omega, rfl, rfl, fun k h1 h2 => hinv k h1 (by omega)⟩ ?_ ?_
    · exact weak2 hw4 rfl ⟨.str _, .im _, .im _, .dat _ _ _, .im _, .int hwb, .im _, trivial⟩ (.nil _) (fun id hid => by cases hid) rfl (fun id hid => by cases hid)
    · rintro n1 s1 ⟨j, _, _, rfl, _⟩
      exact ⟨⟨Nat.le_refl 62, fun x hx => by cases hx⟩, rfl, Nat.le_refl _, rfl⟩
    rintro n1 s1 ⟨j, hj, rfl, rfl, hinv2⟩
    by_cases hjl : j < 8
    · have hbit : bitAt s (8 * i + j) = decide (b.toNat / 2 ^ j % 2 = 1) := by
        unfold bitAt
        rw [show (8 * i + j) / 8 = i by omega, show (8 * i + j) % 8 = j by omega, hb]
        show bitB b j = _
        rw [bitB_test _ _ hjl, Nat.testBit_eq_decide_div_mod_eq]
      have hdv : b.toNat / 2 ^ j / 2 = b.toNat / 2 ^ (j + 1) := by rw [Nat.div_div_eq_div_mul, Nat.pow_succ]
      have hle : b.toNat / 2 ^ j < 256 := Nat.lt_of_le_of_lt (Nat.div_le_self _ _) hbl
      generalize hc : b.toNat / 2 ^ j = c at *
      have hij : IntKind.i64.wrap (((8 * i : Nat) : Int) + (j : Int)) = ((8 * i + j : Nat) : Int) := by rw [wrap_i64 (by omega) (by omega)]; omega
      have hwj : IntKind.i64.wrap ((j : Int) + 1) = ((j + 1 : Nat) : Int) := by rw [wrap_i64 (by omega) (by omega)]; rfl
      have hrem : ((c : Nat) : Int).tmod 2 = ((c % 2 : Nat) : Int) := by rw [Int.tmod_eq_emod_of_nonneg (by omega)]; omega
      have hquo : IntKind.i64.wrap (((c : Nat) : Int).tdiv 2) = ((b.toNat / 2 ^ (j + 1) : Nat) : Int) := by
        rw [Int.tdiv_eq_ediv_of_nonneg (by omega), wrap_i64 (by omega) (by omega), ← hdv]; omega
      unfold rtC
      rw [hc]
      conv => whnf
      refine br_t (decide_eq_true (by omega)) ?_
      conv => whnf
      rw [h8i]
      rw [hij]
      have hdb : decide (((c % 2 : Nat) : Int) = 1) = bitAt s (8 * i + j) := by
        rw [hbit]
        exact decide_eq_decide.2 (by omega)
      have hml : (List.map (bitAt s) (List.range (min (8 * i + j) n))).length ≤ 64 := by rw [List.length_map, List.length_range]; omega
      by_cases hn2 : 8 * i + j < n
      · rw [show decide (((8 * i + j : Nat) : Int) < (n : Int)) = true from decide_eq_true (by omega)]
        conv => whnf
        refine ⟨by decide, ?_⟩
        rw [hrem]
        conv => whnf
        refine ⟨.inr rfl, .inr rfl, ?_, ?_, ?_, ?_⟩
        · intro r hr
          obtain rfl := List.mem_singleton.1 hr
          rfl
        · show ((bools (List.map (bitAt s) (List.range (min (8 * i + j) n)))).length + 1) * 1 ≤ 140737488355328
          rw [bools_len]; omega
        · show (bools (List.map (bitAt s) (List.range (min (8 * i + j) n)))).length + 1 ≤ 140737488355328
          rw [bools_len]; omega
        conv => whnf
        refine ⟨by decide, ?_⟩
        rw [hquo]
        conv => whnf
        intro hw5
        refine ⟨8 - (j + 1), rtC s n q i (j + 1) b, by omega, ?_, j + 1, by omega, rfl, rfl, fun k h1 h2 => by omega⟩
        have hmin : min (8 * i + (j + 1)) n = min (8 * i + j) n + 1 := by omega
        have hmin2 : min (8 * i + j) n = 8 * i + j := by omega
        have hbo : bools (List.map (bitAt s) (List.range (min (8 * i + j) n + 1))) = bools (List.map (bitAt s) (List.range (min (8 * i + j) n))) ++ [[.bool (decide (((c % 2 : Nat) : Int) = 1))]] := by
          rw [List.range_succ, List.map_append, hmin2, hdb]
          simp [bools]
        unfold rtC
        rw [hmin, hbo]
        exact weak2 hw5 rfl ⟨.str _, .im _, .im _, .dat _ _ _, .im _, .im _, .int hwj, trivial⟩ (.nil _) (fun id hid => by cases hid) rfl (fun id hid => by cases hid)
      · rw [show decide (((8 * i + j : Nat) : Int) < (n : Int)) = false from decide_eq_false (by omega)]
        conv => whnf
        refine ⟨by decide, ?_⟩
        rw [hrem]
        conv => whnf
        cases hbb : bitAt s (8 * i + j) with
        | true =>
          refine br_t (show decide (((c % 2 : Nat) : Int) = 1) = true from hdb.trans hbb) ?_
          conv => whnf
          rw [if_pos (any_bit (by omega) (by omega) hbb)]
          exact ⟨_, tbV_vw (.inr ⟨rfl, rfl, rfl⟩), tbV_free _, rfl⟩
        | false =>
          refine br_f (show decide (((c % 2 : Nat) : Int) = 1) = false from hdb.trans hbb) ?_
          conv => whnf
          refine ⟨by decide, ?_⟩
          rw [hquo]
          conv => whnf
          intro hw5
          refine ⟨8 - (j + 1), rtC s n q i (j + 1) b, by omega, ?_, j + 1, by omega, rfl, rfl, fun k h1 h2 => ?_⟩
          · have hmin : min (8 * i + (j + 1)) n = min (8 * i + j) n := by omega
            unfold rtC
            rw [hmin]
            exact weak2 hw5 rfl ⟨.str _, .im _, .im _, .dat _ _ _, .im _, .im _, .int hwj, trivial⟩ (.nil _) (fun id hid => by cases hid) rfl (fun id hid => by cases hid)
          · by_cases hk : k = 8 * i + j
            · rw [hk]; exact hbb
            · exact hinv2 k h1 (by omega)
    · have hj8 : j = 8 := by omega
      subst hj8
      have hmul : 8 * i + 8 = 8 * (i + 1) := by omega
      rw [hmul] at hinv2
      unfold rtC
      rw [hmul]
      conv => whnf
      intro hw5
      refine ⟨q - (i + 1), rtB s n q (i + 1), by omega, ?_, i + 1, by omega, rfl, rfl, hinv2⟩
      exact weak2 hw5 rfl ⟨.str _, .im _, .im _, .dat _ _ _, .int hwi, trivial⟩ (.nil _) (fun id hid => by cases hid) rfl (fun id hid => by cases hid)
  · have hie : i = q := by omega
    subst hie
    have hmin : min (8 * i) n = n := by omega
    have hsl : List.take ((s.length : Nat) : Int).toNat s = s := List.take_length
    unfold rtB
    rw [hmin]
    conv => whnf
    refine br_f (decide_eq_false (by omega)) ?_
    conv => whnf
    intro hw5
    refine wpc_draw2 7 (by rfl) (by decide) (by decide) hw5 ?_
    conv => whnf
    refine ⟨⟨by omega, by omega, by omega⟩, ?_⟩
    rw [hsl]
    conv => whnf
    rw [if_neg (by rw [no_bit hinv]; simp)]
    exact ⟨_, tbV_vw (.inl ⟨rfl, rfl⟩), tbV_free _, rfl⟩
end Go.Abs.Sig

/-! R14 -/
namespace Go.Abs.Sig
open Go.RowKit Go.Abs
set_option linter.unusedSimpArgs false
set_option linter.unusedVariables false
set_option maxRecDepth 8000
attribute [local irreducible] StCall StYield WPc Weak IterOf Lp2

theorem rvalue_n (G : Nat → Option (List V)) (c : UInt8) (n : Nat) (hn : n = 1 ∨ n = 2 ∨ n = 4 ∨ n = 8) (hw : rwidth c = (n : Int)) (hl : wdL.lookup c.toNat = some (n : Int)) (s : List UInt8) (H : Heap) :
    Call2 Go.Proofs.Tryd.prog G 56 [.int .u8 (c.toNat : Int), .str s] H fun r H' => H' = H ∧ r = vfV (valueF c s) := by
  refine Call2.free (fun x hx => by
    simp only [List.mem_cons, List.not_mem_nil, or_false] at hx
    rcases hx with rfl | rfl
    · exact .im _
    · exact .str _) ?_ H
  have hv : valueF c s = ((((ntake s n).1 : Int), []), (ntake s n).2) := by
    unfold valueF
    rw [hl]
    rfl
  rw [hv]
  have hwc := rwidth_ct G c
  rw [hw] at hwc
  have ht := rtake_ct G n hn s
  generalize ntake s n = x at ht ⊢
  obtain ⟨x1, x2, x3⟩ := x
  refine stCall2 Go.Proofs.Tryd.func56 rfl (by decide) ?_
  conv => whnf
  refine Call2.mono (hwc _) fun r0 H0 h => ?_
  obtain ⟨h1, h2⟩ := h
  rw [h1, h2]
  clear h1 h2 r0 H0
  conv => whnf
  refine br_t (decide_eq_true (by omega)) ?_
  conv => whnf
  refine Call2.mono (ht _) fun r0 H0 h => ?_
  obtain ⟨h1, h2⟩ := h
  rw [h1, h2]
  clear h1 h2 r0 H0
  conv => whnf
  exact ⟨vfV_free ((((x1 : Nat) : Int), []), x2, x3), rfl⟩
theorem rvalue_t (G : Nat → Option (List V)) (c : UInt8) (hc : c = 83 ∨ c = 76 ∨ c = 84) (s : List UInt8) (hs : s.length ≤ maxStr) (H : Heap) :
    Call2 Go.Proofs.Tryd.prog G 56 [.int .u8 (c.toNat : Int), .str s] H fun r H' => H' = H ∧ r = vfV (valueF c s) := by
  refine Call2.free (fun x hx => by
    simp only [List.mem_cons, List.not_mem_nil, or_false] at hx
    rcases hx with rfl | rfl
    · exact .im _
    · exact .str _) ?_ H
  rcases hc with rfl | rfl | rfl
  · have hv : valueF 83 s = ((0, (ttake 1 s).1), (ttake 1 s).2) := rfl
    rw [hv]
    have ht := rshort_ct G s hs
    generalize ttake 1 s = x at ht ⊢
    obtain ⟨x1, x2, x3⟩ := x
    refine stCall2 Go.Proofs.Tryd.func56 rfl (by decide) ?_
    conv => whnf
    refine Call2.mono (rwidth_ct G 83 _) fun r0 H0 h => ?_
    obtain ⟨h1, h2⟩ := h
    rw [h1, h2]
    clear h1 h2 r0 H0
    conv => whnf
    refine Call2.mono (ht _) fun r0 H0 h => ?_
    obtain ⟨h1, h2⟩ := h
    rw [h1, h2]
    clear h1 h2 r0 H0
    conv => whnf
    exact ⟨vfV_free ((0, x1), x2, x3), rfl⟩
  · have hv : valueF 76 s = ((0, (ttake 4 s).1), (ttake 4 s).2) := rfl
    rw [hv]
    have ht := rlong_ct G s hs
    generalize ttake 4 s = x at ht ⊢
    obtain ⟨x1, x2, x3⟩ := x
    refine stCall2 Go.Proofs.Tryd.func56 rfl (by decide) ?_
    conv => whnf
    refine Call2.mono (rwidth_ct G 76 _) fun r0 H0 h => ?_
    obtain ⟨h1, h2⟩ := h
    rw [h1, h2]
    clear h1 h2 r0 H0
    conv => whnf
    refine Call2.mono (ht _) fun r0 H0 h => ?_
    obtain ⟨h1, h2⟩ := h
    rw [h1, h2]
    clear h1 h2 r0 H0
    conv => whnf
    exact ⟨vfV_free ((0, x1), x2, x3), rfl⟩
  · have hv : valueF 84 s = ((0, (tblF s).1), (tblF s).2) := rfl
    rw [hv]
    have ht := rtbl_ct G s hs
    generalize tblF s = x at ht ⊢
    obtain ⟨x1, x2, x3⟩ := x
    refine stCall2 Go.Proofs.Tryd.func56 rfl (by decide) ?_
    conv => whnf
    refine Call2.mono (rwidth_ct G 84 _) fun r0 H0 h => ?_
    obtain ⟨h1, h2⟩ := h
    rw [h1, h2]
    clear h1 h2 r0 H0
    conv => whnf
    refine Call2.mono (ht _) fun r0 H0 h => ?_
    obtain ⟨h1, h2⟩ := h
    rw [h1, h2]
    clear h1 h2 r0 H0
    conv => whnf
    exact ⟨vfV_free ((0, x1), x2, x3), rfl⟩
end Go.Abs.Sig

/-! R17 -/
namespace Go.Abs.Sig
open Go.RowKit Go.Abs
set_option linter.unusedSimpArgs false
set_option linter.unusedVariables false
set_option maxRecDepth 8000
attribute [local irreducible] StCall StYield WPc Weak IterOf Lp2

theorem valueF_rng (c : UInt8) (s : List UInt8) : Rng (valueF c s).1 := by
  unfold valueF
  split
  · rename_i n h
    have hn := wdL_some h
    have h1 := ntake_lt s n.toNat
    have h2 : (256 : Nat) ^ n.toNat ≤ 256 ^ 8 := Nat.pow_le_pow_right (by decide) (by omega)
    have h3 : (256 : Nat) ^ 8 = 18446744073709551616 := by decide
    unfold Rng
    simp only
    omega
  · split
    · exact ⟨Int.le_refl _, show (0 : Int) < _ by omega⟩
    · split
      · exact ⟨Int.le_refl _, show (0 : Int) < _ by omega⟩
      · exact ⟨Int.le_refl _, show (0 : Int) < _ by omega⟩
theorem bitVal_rng (b : Bool) : Rng (bitVal b) := by
  cases b
  · exact ⟨by decide, by decide⟩
  · exact ⟨by decide, by decide⟩
theorem takeL_rng : ∀ (f : Nat) (ls rest : List UInt8) (args : List Val'), (∀ v ∈ args, Rng v) → ∀ v ∈ (takeL f ls rest args).1, Rng v
  | _, [], rest, args, ha, v, hv => by
    unfold takeL at hv
    exact ha v hv
  | 0, _ :: _, rest, args, ha, v, hv => ha v hv
  | f + 1, c :: ls, rest, args, ha, v, hv => by
    rw [takeL] at hv
    split at hv
    · split at hv
      · exact ha v hv
      · refine takeL_rng f _ _ _ (fun x hx => ?_) v hv
        rcases List.mem_append.1 hx with hx | hx
        · exact ha x hx
        · obtain ⟨b, _, rfl⟩ := List.mem_map.1 hx
          exact bitVal_rng b
    · split at hv
      · exact ha v hv
      · refine takeL_rng f _ _ _ (fun x hx => ?_) v hv
        rcases List.mem_append.1 hx with hx | hx
        · exact ha x hx
        · rw [List.mem_singleton.1 hx]
          exact valueF_rng _ _
theorem take6_rng (s : List UInt8) : ∀ v ∈ (take6 s).1.2.2, Rng v := by
  unfold take6
  split
  · intro v hv; cases hv
  · split
    · intro v hv; cases hv
    · split
      · intro v hv; cases hv
      · exact takeL_rng _ _ _ _ (fun v hv => by cases hv)

/-- The head of what take6 is told. -/
theorem ntake2 {s : List UInt8} {a b : UInt8} (h0 : s[0]? = some a) (h1 : s[1]? = some b) : ntake s 2 = (256 * a.toNat + b.toNat, s.drop 2, 0) := by
  match s, h0, h1 with
  | x :: y :: t, h0, h1 =>
    cases h0; cases h1
    unfold ntake
    rw [if_neg (by simp)]
    show (beN [a, b], t, (0 : Int)) = _
    have : beN [a, b] = 256 * a.toNat + b.toNat := by
      show (0 * 256 + a.toNat) * 256 + b.toNat = _
      omega
    rw [this]
    rfl
/-- What is taken behind the head, and what is answered. -/
def tkL (c d : Int) (r : List UInt8) : List Val' × List UInt8 × Int := takeL (rowAt c d).2.2.1.length (rowAt c d).2.2.1 r []
theorem Take6_head {s : List UInt8} {a b c d : UInt8} (h0 : s[0]? = some a) (h1 : s[1]? = some b) (h2 : s[2]? = some c) (h3 : s[3]? = some d) :
    take6 s = if isAt ((256 * a.toNat + b.toNat : Nat) : Int) ((256 * c.toNat + d.toNat : Nat) : Int) = false then (zMet, 7) else
      ((((256 * a.toNat + b.toNat : Nat) : Int), ((256 * c.toNat + d.toNat : Nat) : Int), (tkL ((256 * a.toNat + b.toNat : Nat) : Int) ((256 * c.toNat + d.toNat : Nat) : Int) (s.drop 4)).1),
        tailE (tkL ((256 * a.toNat + b.toNat : Nat) : Int) ((256 * c.toNat + d.toNat : Nat) : Int) (s.drop 4)).2.1 (tkL ((256 * a.toNat + b.toNat : Nat) : Int) ((256 * c.toNat + d.toNat : Nat) : Int) (s.drop 4)).2.2) := by
  have e1 := ntake2 h0 h1
  have e2 : ntake (s.drop 2) 2 = (256 * c.toNat + d.toNat, s.drop 4, 0) := by
    have := ntake2 (s := s.drop 2) (a := c) (b := d) (by rw [List.getElem?_drop]; exact h2) (by rw [List.getElem?_drop]; exact h3)
    rw [this, List.drop_drop]
  unfold take6
  rw [e1]
  simp only
  rw [e2]
  simp only
  rw [if_neg (by decide), if_neg (by decide)]
  rfl
theorem Take6_short {s : List UInt8} (h : s.length < 4) : Take6 s = (zMet, 7) := by
  refine if_pos (.inl ?_)
  unfold take6 ntake
  by_cases h2 : s.length < 2
  · simp [h2]
  · have : s.length - 2 < 2 := by omega
    simp [h2, this]
end Go.Abs.Sig

/-! R18 -/
namespace Go.Abs.Sig
open Go.RowKit Go.Abs
set_option linter.unusedSimpArgs false
set_option linter.unusedVariables false
set_option maxRecDepth 8000
attribute [local irreducible] StCall StYield WPc Weak IterOf Lp2

def rxH (c d : Int) (args : List Val') : Heap := [some (.cells 26 zM), some (.cells 26 [.int .i64 c, .int .i64 d, .dat 2 (vals args) (.cls 78)])]
def rxS (c d : Int) (rest L : List UInt8) (i : Nat) (args : List Val') : S2 := headS 144 ([.bad, .bad, .ptr 0 0, .bad, .ptr 1 0, .str L, .bad, .str rest, .im (.int .i64 (i : Int))] ++ List.replicate 135 .bad) (rxH c d args) [] none
def rxK (c d : Int) (rest L : List UInt8) (i n : Nat) (args : List Val') : S2 := headS 144 ([.bad, .bad, .ptr 0 0, .bad, .ptr 1 0, .str L, .bad, .str rest, .im (.int .i64 (i : Int)), .bad, .bad, .bad, .im (.int .i64 (n : Int))] ++ List.replicate 131 .bad) (rxH c d args) [] none
def rxL (c d : Int) (left L : List UInt8) (i : Nat) (bits : List Bool) (args : List Val') (k : Nat) : S2 := headS 144 ([.bad, .bad, .ptr 0 0, .bad, .ptr 1 0, .str L, .bad, .bad, .im (.int .i64 (i : Int)), .bad, .bad, .bad, .im (.int .i64 (bits.length : Int)), .dat 1 (bools bits) .no, .str left, .bad, .im (.int .i64 (k : Int))] ++ List.replicate 127 .bad) (rxH c d args) [] none
theorem rxH_bws (c d : Int) (args : List Val') : BWs 2 (rxH c d args) (rxH c d args) := .cons zM_bw (.cons (.cells _ _ _ (.cons (.im _) (.cons (.im _) (.cons (.dat _ _ _) .nil)))) (.nil _))

theorem rvalue6_ct (G : Nat → Option (List V)) {b : UInt8} (h : b = 111 ∨ b = 115 ∨ b = 108 ∨ b = 113 ∨ b = 98 ∨ b = 83 ∨ b = 76 ∨ b = 84) (h98 : b ≠ 98) (s : List UInt8) (hs : s.length ≤ maxStr) (H : Heap) :
    Call2 Go.Proofs.Tryd.prog G 56 [.int .u8 (b.toNat : Int), .str s] H fun r H' => H' = H ∧ r = vfV (valueF b s) := by
  rcases h with rfl | rfl | rfl | rfl | rfl | rfl | rfl | rfl
  · exact rvalue_n G 111 1 (by decide) rfl rfl s H
  · exact rvalue_n G 115 2 (by decide) rfl rfl s H
  · exact rvalue_n G 108 4 (by decide) rfl rfl s H
  · exact rvalue_n G 113 8 (by decide) rfl rfl s H
  · exact absurd rfl h98
  · exact rvalue_t G 83 (by decide) s hs H
  · exact rvalue_t G 76 (by decide) s hs H
  · exact rvalue_t G 84 (by decide) s hs H

set_option maxHeartbeats 8000000 in
theorem rTake_ct (G : Nat → Option (List V)) (s : List UInt8) (hs : s.length ≤ maxStr) (H : Heap) : Call2 Go.Proofs.Tryd.prog G 32 [.str s] H fun r H' => H' = H ∧ r = .tup [.agg (mcells (Take6 s).1), .int .i64 (Take6 s).2] := by
  refine Call2.free (fun x hx => by
    simp only [List.mem_cons, List.not_mem_nil, or_false] at hx
    subst hx
    exact .str _) ?_ H
  refine Call2.weakR ?_
  have hrt := rrightT_ct G (take6 s).1 (take6_rng s) (take6_str s hs)
  refine stCall2 Go.Proofs.Tryd.func32 rfl (by decide) ?_
  conv => whnf
  by_cases h4 : s.length < 4
  · refine br_t (decide_eq_true (by omega)) ?_
    rw [Take6_short h4]
    conv => whnf
    exact ⟨_, vw_tupM (vw_metE (l := []) (.inr rfl)), free_tup2 (mcells_free _) (.im _), rfl⟩
  refine br_f (decide_eq_false (by omega)) ?_
  obtain ⟨a0, ha⟩ := str_get (s := s) (j := 0) (by omega)
  obtain ⟨b0, hb⟩ := str_get (s := s) (j := 1) (by omega)
  obtain ⟨c0, hc⟩ := str_get (s := s) (j := 2) (by omega)
  obtain ⟨d0, hd⟩ := str_get (s := s) (j := 3) (by omega)
  have hga : s[Int.toNat 0]? = some a0 := ha
  have hgb : s[Int.toNat 1]? = some b0 := hb
  have hgc : s[Int.toNat 2]? = some c0 := hc
  have hgd : s[Int.toNat 3]? = some d0 := hd
  have hhead := Take6_head ha hb hc hd
  have hla := a0.toNat_lt
  have hlb := b0.toNat_lt
  have hlc := c0.toNat_lt
  have hld := d0.toNat_lt
  have hwc : IntKind.i64.wrap (IntKind.i64.wrap (256 * IntKind.i64.wrap (a0.toNat : Int)) + IntKind.i64.wrap (b0.toNat : Int)) = ((256 * a0.toNat + b0.toNat : Nat) : Int) := by
    rw [wrap_i64 (n := (a0.toNat : Int)) (by omega) (by omega), wrap_i64 (n := (b0.toNat : Int)) (by omega) (by omega), wrap_i64 (n := 256 * (a0.toNat : Int)) (by omega) (by omega), wrap_i64 (by omega) (by omega)]
    omega
  have hwd : IntKind.i64.wrap (IntKind.i64.wrap (256 * IntKind.i64.wrap (c0.toNat : Int)) + IntKind.i64.wrap (d0.toNat : Int)) = ((256 * c0.toNat + d0.toNat : Nat) : Int) := by
    rw [wrap_i64 (n := (c0.toNat : Int)) (by omega) (by omega), wrap_i64 (n := (d0.toNat : Int)) (by omega) (by omega), wrap_i64 (n := 256 * (c0.toNat : Int)) (by omega) (by omega), wrap_i64 (by omega) (by omega)]
    omega
  generalize ((256 * a0.toNat + b0.toNat : Nat) : Int) = c at *
  generalize ((256 * c0.toNat + d0.toNat : Nat) : Int) = d at *
  unfold Take6
  rw [hhead] at hrt ⊢
  conv => whnf
  intro hw
  refine wpc_drawG2 [17, 18] [] [] (by rfl) (by kernel_rfl) (by kernel_rfl) hw ?_
  conv => whnf
  refine optK_intro hga ?_
  conv => whnf
  refine optK_intro hgb ?_
  conv => whnf
  refine optK_intro hgc ?_
  conv => whnf
  refine optK_intro hgd ?_
  conv => whnf
  rw [hwc, hwd]
  refine Call2.mono (rof_ct G c d _) fun r0 H0 h => ?_
  obtain ⟨h1, h2⟩ := h
  rw [h1, h2]
  clear h1 h2 r0 H0
  conv => whnf
  rw [rof_eq]
  have hsh := tab_short64 c d
  have hlets := @letters_at c d
  cases hat : isAt c d with
  | false =>
    rw [hat] at hrt
    conv => whnf
    rw [if_pos rfl, if_pos (.inl (by decide))]
    exact ⟨_, vw_tupM (vw_metE (l := []) (.inr rfl)), free_tup2 (mcells_free _) (.im _), rfl⟩
  | true =>
    rw [hat] at hrt
    rw [if_neg (show ¬ ((true : Bool) = false) by decide)] at hrt ⊢
    simp only at hrt ⊢
    clear hhead
    unfold tkL at hrt ⊢
    have hr2 : (s.drop 4).length ≤ maxStr := by rw [List.length_drop]; omega
    have h4s : List.drop (4 : Int).toNat (List.take ((s.length : Nat) : Int).toNat s) = s.drop 4 := by rw [Int.toNat_natCast, List.take_length]; rfl
    generalize (rowAt c d).2.2.1 = L at *
    conv => whnf
    refine ⟨⟨by omega, by omega, by omega⟩, ?_⟩
    rw [h4s]
    generalize s.drop 4 = r2 at *
    clear hga hgb hgc hgd ha hb hc hd hwc hwd h4s h4
    obtain ⟨Z, hZ⟩ : ∃ Z, takeL L.length L r2 [] = Z := ⟨_, rfl⟩
    rw [hZ] at hrt ⊢
    conv => whnf
    intro hw
    refine wpc_loop2 (fun n1 s1 => ∃ (i i' f : Nat) (rest : List UInt8) (args : List Val'), i ≤ i' ∧ i' ≤ L.length ∧ n1 = L.length - i ∧ args.length = i' ∧ L.length - i' ≤ f ∧ rest.length ≤ maxStr ∧ s1 = rxS c d rest L i args ∧
      (∀ j, i ≤ j → j < i' → L[j]? = some 98) ∧ (i < i' → 0 < i ∧ L[i - 1]? = some 98) ∧ (L[i']? = some 98 → 0 < i' → L[i' - 1]? ≠ some 98) ∧ takeL f (L.drop i') rest args = Z) L.length (rxS c d r2 L 0 []) ?_
      ⟨0, 0, L.length, r2, [], Nat.le_refl _, Nat.zero_le _, rfl, rfl, Nat.le_refl _, hr2, rfl, fun j _ h => absurd h (Nat.not_lt_zero _), fun h => absurd h (Nat.lt_irrefl _), fun _ h => absurd h (Nat.lt_irrefl _), hZ⟩ ?_ ?_
    · refine weak2 hw rfl ⟨.ptr 0 0 (show 0 < 2 by decide), .ptr 1 0 (show 1 < 2 by decide), .str _, .str _, .im _, trivial⟩ ?_ (fun id hid => by cases hid) rfl (fun id hid => by cases hid)
      exact .cons zM_bw (.cons (.cells _ _ _ (.cons (.im _) (.cons (.im _) (.cons (.nil _ _ _ _ (.inl rfl)) .nil)))) (.nil _))
    · rintro n1 s1 ⟨i, i', f, rest, args, _, _, _, _, _, _, rfl, _⟩
      exact ⟨⟨Nat.le_refl 144, fun x hx => by cases hx⟩, rfl, Nat.le_refl _, rfl⟩
    rintro n1 s1 ⟨i, i', f, rest, args, hii, hil', rfl, hal, hf, hrl, rfl, hall, hskip, hnew, hinv⟩
    by_cases hil : i < L.length
    · obtain ⟨b, hbb⟩ := str_get hil
      have hgb : L[Int.toNat (i : Int)]? = some b := hbb
      have hd0 : decide (0 ≤ (i : Int)) = true := decide_eq_true (by omega)
      have hwi : IntKind.i64.wrap ((i : Int) + 1) = ((i + 1 : Nat) : Int) := by rw [wrap_i64 (by omega) (by omega)]; rfl
      conv => whnf
      refine br_t (decide_eq_true (by omega)) ?_
      conv => whnf
      refine grd_intro hd0 (optK_intro hgb ?_)
      conv => whnf
      by_cases h98 : b.toNat = 98
      · have hb98' : b = 98 := (u8_ne (by decide)).1 h98
        refine br_f (decide_eq_false (by omega)) ?_
        conv => whnf
        by_cases hi0 : 0 < i
        · refine br_t (decide_eq_true (by omega)) ?_
          obtain ⟨p, hp⟩ := str_get (s := L) (j := i - 1) (by omega)
          have hwm : IntKind.i64.wrap ((i : Int) - 1) = ((i - 1 : Nat) : Int) := by rw [wrap_i64 (by omega) (by omega)]; omega
          have hgp : L[Int.toNat ((i - 1 : Nat) : Int)]? = some p := hp
          conv => whnf
          rw [hwm]
          have hdm : decide (0 ≤ ((i - 1 : Nat) : Int)) = true := decide_eq_true (by omega)
          refine grd_intro hdm (optK_intro hgp ?_)
          conv => whnf
          by_cases hp98 : p.toNat = 98
          · refine br_t (decide_eq_true (by omega)) ?_
            have hp98' : p = 98 := (u8_ne (by decide)).1 hp98
            have hlt : i < i' := by
              rcases Nat.lt_or_ge i i' with h | h
              · exact h
              · have hie : i' = i := by omega
                subst hie
                exact absurd (by rw [hp, hp98']) (hnew (by rw [hbb, hb98']) hi0)
            conv => whnf
            intro hw5
            refine ⟨L.length - (i + 1), rxS c d rest L (i + 1) args, by omega, ?_, i + 1, i', f, rest, args, by omega, hil', rfl, hal, hf, hrl, rfl, fun j h1 h2 => hall j (by omega) h2, fun h => ⟨by omega, by rw [show i + 1 - 1 = i by omega, hbb, hb98']⟩, hnew, hinv⟩
            exact weak2 hw5 rfl ⟨.ptr 0 0 (show 0 < 2 by decide), .ptr 1 0 (show 1 < 2 by decide), .str _, .str _, .int hwi, trivial⟩ (rxH_bws _ _ _) (fun id hid => by cases hid) rfl (fun id hid => by cases hid)
          · refine br_f (decide_eq_false (by omega)) ?_
            have hfirst : ¬ (0 < i ∧ L[i - 1]? = some 98) := fun h => hp98 (by rw [hp] at h; rw [Option.some.inj h.2]; rfl)
            have hii2 : i' = i := by
              rcases Nat.lt_or_ge i i' with h | h
              · exact absurd (hskip h) hfirst
              · omega
            subst hii2
            have hdrop : L.drop i' = b :: L.drop (i' + 1) := by rw [List.drop_eq_getElem_cons hil, (List.getElem?_eq_some_iff.1 hbb).2]
            obtain ⟨f, rfl⟩ : ∃ f', f = f' + 1 := ⟨f - 1, by omega⟩
            conv => whnf
            intro hwA
            refine wpc_loop2 (fun n1 s1 => ∃ n : Nat, i' + n ≤ L.length ∧ n1 = L.length - i' - n ∧ s1 = rxK c d rest L i' n args ∧ ∀ j, i' ≤ j → j < i' + n → L[j]? = some 98) (L.length - i') (rxK c d rest L i' 0 args) ?_ ⟨0, by omega, rfl, rfl, fun j h1 h2 => by omega⟩ ?_ ?_
            · exact weak2 hwA rfl ⟨.ptr 0 0 (show 0 < 2 by decide), .ptr 1 0 (show 1 < 2 by decide), .str _, .str _, .im _, .im _, trivial⟩ (rxH_bws _ _ _) (fun id hid => by cases hid) rfl (fun id hid => by cases hid)
            · rintro n1 s1 ⟨n, _, _, rfl, _⟩
              exact ⟨⟨Nat.le_refl 144, fun x hx => by cases hx⟩, rfl, Nat.le_refl _, rfl⟩
            rintro n1 s1 ⟨n, hn, rfl, rfl, hall2⟩
            have hwn : IntKind.i64.wrap ((i' : Int) + (n : Int)) = ((i' + n : Nat) : Int) := by rw [wrap_i64 (by omega) (by omega)]; rfl
            by_cases hk : i' + n < L.length
            · obtain ⟨b2, hb2⟩ := str_get hk
              have hgetb : L[Int.toNat ((i' + n : Nat) : Int)]? = some b2 := hb2
              have hd0 : decide (0 ≤ ((i' + n : Nat) : Int)) = true := decide_eq_true (by omega)
              have hwn1 : IntKind.i64.wrap ((n : Int) + 1) = ((n + 1 : Nat) : Int) := by rw [wrap_i64 (by omega) (by omega)]; rfl
              conv => whnf
              rw [hwn]
              rw [show decide (((i' + n : Nat) : Int) < (L.length : Int)) = true from decide_eq_true (by omega)]
              conv => whnf
              rw [hwn]
              refine grd_intro hd0 (optK_intro hgetb ?_)
              conv => whnf
              by_cases h98 : b2.toNat = 98
              · refine br_t (decide_eq_true (by omega)) ?_
                have hb98 : b2 = 98 := (u8_ne (by decide)).1 h98
                conv => whnf
                intro hw3
                refine ⟨L.length - i' - (n + 1), rxK c d rest L i' (n + 1) args, by omega, ?_, n + 1, by omega, rfl, rfl, fun j h1 h2 => ?_⟩
                · exact weak2 hw3 rfl ⟨.ptr 0 0 (show 0 < 2 by decide), .ptr 1 0 (show 1 < 2 by decide), .str _, .str _, .im _, .int hwn1, trivial⟩ (rxH_bws _ _ _) (fun id hid => by cases hid) rfl (fun id hid => by cases hid)
                · by_cases hjk : j = i' + n
                  · rw [hjk, hb2, hb98]
                  · exact hall2 j h1 (by omega)
              · refine br_f (decide_eq_false (by omega)) ?_
                have hstop : ∀ x, L[i' + n]? = some x → x ≠ 98 := fun x hx h => h98 (by rw [hb2] at hx; cases hx; rw [h]; rfl)
                conv => whnf
                have hn0 : 0 < n := by
                  rcases Nat.eq_zero_or_pos n with h | h
                  · subst h
                    exact absurd hb98' (hstop b hbb)
                  · exact h
                have hrun := runB_at (L := L) (i := i') (k := i' + n) (by omega) hall2 hstop hn
                have htb := rtakeBits_ct G rest n (by omega)
                have htl := tbits_len rest n
                rw [hdrop, takeL, ← hdrop, hrun, show i' + n - i' = n by omega, if_pos (by omega)] at hinv
                generalize tbits rest n = z at htb htl hinv
                obtain ⟨bits, left, e⟩ := z
                unfold tbV at htb
                simp only at hinv htl
                refine Call2.mono (htb _) fun r0 H0 h => ?_
                obtain ⟨h1, h2⟩ := h
                rw [h1, h2]
                clear h1 h2 r0 H0
                conv => whnf
                by_cases he : e ≠ 0
                · refine br_t (decide_eq_true he) ?_
                  rw [if_pos he] at hinv
                  conv => whnf
                  have hte : tailE left e = e := by unfold tailE; rw [if_neg (by simp [he])]
                  refine ⟨_, vw_tupM (vw_metE (l := []) (.inr rfl)), free_tup2 (mcells_free _) (.im _), ?_⟩
                  rw [← hinv]
                  simp only
                  rw [hte, if_pos (.inl he)]
                  rfl
                refine br_f (decide_eq_false he) ?_
                rw [if_neg he] at hinv
                have he0 : e = 0 := by simpa using he
                have hbl := htl.2 he0
                subst hbl
                conv => whnf
                intro hwB
                refine wpc_loop2 (fun n1 s1 => ∃ j : Nat, j ≤ bits.length ∧ n1 = bits.length - j ∧ s1 = rxL c d left L i' bits (args ++ (bits.take j).map bitVal) j) bits.length (rxL c d left L i' bits args 0) ?_ ⟨0, by omega, rfl, by simp⟩ ?_ ?_
                · exact weak2 hwB rfl ⟨.ptr 0 0 (show 0 < 2 by decide), .ptr 1 0 (show 1 < 2 by decide), .str _, .im _, .im _, .dat _ _ _, .str _, .im _, trivial⟩ (rxH_bws _ _ _) (fun id hid => by cases hid) rfl (fun id hid => by cases hid)
                · rintro n1 s1 ⟨j, _, _, rfl⟩
                  exact ⟨⟨Nat.le_refl 144, fun x hx => by cases hx⟩, rfl, Nat.le_refl _, rfl⟩
                rintro n1 s1 ⟨j, hj, rfl, rfl⟩
                have hal2 : (args ++ (bits.take j).map bitVal).length ≤ 200 := by simp; omega
                by_cases hjl : j < bits.length
                · obtain ⟨bb, hbb2⟩ : ∃ x, bits[j]? = some x := ⟨_, List.getElem?_eq_getElem hjl⟩
                  have hgj := bools_get hbb2
                  have hgd : (true && true && decide ((0 : Int) ≤ (j : Int))) = true := by simp
                  have hwj : IntKind.i64.wrap ((j : Int) + 1) = ((j + 1 : Nat) : Int) := by rw [wrap_i64 (by omega) (by omega)]; rfl
                  have htk : (bits.take (j + 1)).map bitVal = (bits.take j).map bitVal ++ [bitVal bb] := by rw [List.take_add_one, hbb2]; simp
                  have hrw : vals (args ++ (bits.take (j + 1)).map bitVal) = vals (args ++ (bits.take j).map bitVal) ++ [vcells (bitVal bb)] := by rw [htk, ← List.append_assoc, vals_app]; rfl
                  have hvl3 : (vals (args ++ (bits.take j).map bitVal)).length ≤ 200 := by simpa [vals] using hal2
                  obtain ⟨args3, h3⟩ : ∃ x, x = args ++ (bits.take (j + 1)).map bitVal := ⟨_, rfl⟩
                  rw [← h3] at hrw
                  generalize args ++ (bits.take j).map bitVal = args2 at hrw hvl3 ⊢
                  conv => whnf
                  refine br_t (decide_eq_true (by omega)) ?_
                  conv => whnf
                  refine grd_intro hgd (optK_intro hgj ?_)
                  cases bb
                  · conv => whnf
                    refine ⟨.inr rfl, .inr rfl, ?_, ?_, ?_, ?_⟩
                    · intro r hr
                      obtain rfl := List.mem_singleton.1 hr
                      rfl
                    · show ((vals args2).length + 1) * 24 ≤ 140737488355328
                      omega
                    · show (vals args2).length + 1 ≤ 140737488355328
                      omega
                    conv => whnf
                    intro hw6
                    refine ⟨bits.length - (j + 1), rxL c d left L i' bits args3 (j + 1), by omega, ?_, j + 1, by omega, rfl, by rw [h3]⟩
                    refine weak2 hw6 rfl ⟨.ptr 0 0 (show 0 < 2 by decide), .ptr 1 0 (show 1 < 2 by decide), .str _, .im _, .im _, .dat _ _ _, .str _, .int hwj, trivial⟩ ?_ (fun id hid => by cases hid) rfl (fun id hid => by cases hid)
                    unfold rxH
                    rw [hrw]
                    exact .cons zM_bw (.cons (.cells _ _ _ (.cons (.im _) (.cons (.im _) (.cons (.dat _ _ _) .nil)))) (.nil _))
                  · conv => whnf
                    refine ⟨.inr rfl, .inr rfl, ?_, ?_, ?_, ?_⟩
                    · intro r hr
                      obtain rfl := List.mem_singleton.1 hr
                      rfl
                    · show ((vals args2).length + 1) * 24 ≤ 140737488355328
                      omega
                    · show (vals args2).length + 1 ≤ 140737488355328
                      omega
                    conv => whnf
                    intro hw6
                    refine ⟨bits.length - (j + 1), rxL c d left L i' bits args3 (j + 1), by omega, ?_, j + 1, by omega, rfl, by rw [h3]⟩
                    refine weak2 hw6 rfl ⟨.ptr 0 0 (show 0 < 2 by decide), .ptr 1 0 (show 1 < 2 by decide), .str _, .im _, .im _, .dat _ _ _, .str _, .int hwj, trivial⟩ ?_ (fun id hid => by cases hid) rfl (fun id hid => by cases hid)
                    unfold rxH
                    rw [hrw]
                    exact .cons zM_bw (.cons (.cells _ _ _ (.cons (.im _) (.cons (.im _) (.cons (.dat _ _ _) .nil)))) (.nil _))
                · have hje : j = bits.length := by omega
                  rw [hje, List.take_length]
                  conv => whnf
                  refine br_f (decide_eq_false (by omega)) ?_
                  conv => whnf
                  intro hw5
                  have hdd : (L.drop i').drop bits.length = L.drop (i' + bits.length) := by rw [List.drop_drop]
                  rw [hdd] at hinv
                  refine ⟨L.length - (i' + 1), rxS c d left L (i' + 1) (args ++ bits.map bitVal), by omega, ?_, i' + 1, i' + bits.length, f, left, args ++ bits.map bitVal, by omega, by omega, rfl, by simp; omega, by omega, Nat.le_trans htl.1 hrl, rfl, fun j h1 h2 => hall2 j (by omega) h2, fun h => ⟨by omega, by rw [show i' + 1 - 1 = i' by omega, hbb, hb98']⟩, fun h _ => absurd rfl (hstop _ h), hinv⟩
                  exact weak2 hw5 rfl ⟨.ptr 0 0 (show 0 < 2 by decide), .ptr 1 0 (show 1 < 2 by decide), .str _, .str _, .int hwi, trivial⟩ (rxH_bws _ _ _) (fun id hid => by cases hid) rfl (fun id hid => by cases hid)
            · have hke : i' + n = L.length := by omega
              have hstop : ∀ x, L[i' + n]? = some x → x ≠ 98 := fun x hx => by
                rw [hke] at hx; simp at hx
              conv => whnf
              rw [hwn]
              rw [show decide (((i' + n : Nat) : Int) < (L.length : Int)) = false from decide_eq_false (by omega)]
              conv => whnf
              have hn0 : 0 < n := by
                rcases Nat.eq_zero_or_pos n with h | h
                · subst h
                  exact absurd hb98' (hstop b hbb)
                · exact h
              have hrun := runB_at (L := L) (i := i') (k := i' + n) (by omega) hall2 hstop hn
              have htb := rtakeBits_ct G rest n (by omega)
              have htl := tbits_len rest n
              rw [hdrop, takeL, ← hdrop, hrun, show i' + n - i' = n by omega, if_pos (by omega)] at hinv
              generalize tbits rest n = z at htb htl hinv
              obtain ⟨bits, left, e⟩ := z
              unfold tbV at htb
              simp only at hinv htl
              refine Call2.mono (htb _) fun r0 H0 h => ?_
              obtain ⟨h1, h2⟩ := h
              rw [h1, h2]
              clear h1 h2 r0 H0
              conv => whnf
              by_cases he : e ≠ 0
              · refine br_t (decide_eq_true he) ?_
                rw [if_pos he] at hinv
                conv => whnf
                have hte : tailE left e = e := by unfold tailE; rw [if_neg (by simp [he])]
                refine ⟨_, vw_tupM (vw_metE (l := []) (.inr rfl)), free_tup2 (mcells_free _) (.im _), ?_⟩
                rw [← hinv]
                simp only
                rw [hte, if_pos (.inl he)]
                rfl
              refine br_f (decide_eq_false he) ?_
              rw [if_neg he] at hinv
              have he0 : e = 0 := by simpa using he
              have hbl := htl.2 he0
              subst hbl
              conv => whnf
              intro hwB
              refine wpc_loop2 (fun n1 s1 => ∃ j : Nat, j ≤ bits.length ∧ n1 = bits.length - j ∧ s1 = rxL c d left L i' bits (args ++ (bits.take j).map bitVal) j) bits.length (rxL c d left L i' bits args 0) ?_ ⟨0, by omega, rfl, by simp⟩ ?_ ?_
              · exact weak2 hwB rfl ⟨.ptr 0 0 (show 0 < 2 by decide), .ptr 1 0 (show 1 < 2 by decide), .str _, .im _, .im _, .dat _ _ _, .str _, .im _, trivial⟩ (rxH_bws _ _ _) (fun id hid => by cases hid) rfl (fun id hid => by cases hid)
              · rintro n1 s1 ⟨j, _, _, rfl⟩
                exact ⟨⟨Nat.le_refl 144, fun x hx => by cases hx⟩, rfl, Nat.le_refl _, rfl⟩
              rintro n1 s1 ⟨j, hj, rfl, rfl⟩
              have hal2 : (args ++ (bits.take j).map bitVal).length ≤ 200 := by simp; omega
              by_cases hjl : j < bits.length
              · obtain ⟨bb, hbb2⟩ : ∃ x, bits[j]? = some x := ⟨_, List.getElem?_eq_getElem hjl⟩
                have hgj := bools_get hbb2
                have hgd : (true && true && decide ((0 : Int) ≤ (j : Int))) = true := by simp
                have hwj : IntKind.i64.wrap ((j : Int) + 1) = ((j + 1 : Nat) : Int) := by rw [wrap_i64 (by omega) (by omega)]; rfl
                have htk : (bits.take (j + 1)).map bitVal = (bits.take j).map bitVal ++ [bitVal bb] := by rw [List.take_add_one, hbb2]; simp
                have hrw : vals (args ++ (bits.take (j + 1)).map bitVal) = vals (args ++ (bits.take j).map bitVal) ++ [vcells (bitVal bb)] := by rw [htk, ← List.append_assoc, vals_app]; rfl
                have hvl3 : (vals (args ++ (bits.take j).map bitVal)).length ≤ 200 := by simpa [vals] using hal2
                obtain ⟨args3, h3⟩ : ∃ x, x = args ++ (bits.take (j + 1)).map bitVal := ⟨_, rfl⟩
                rw [← h3] at hrw
                generalize args ++ (bits.take j).map bitVal = args2 at hrw hvl3 ⊢
                conv => whnf
                refine br_t (decide_eq_true (by omega)) ?_
                conv => whnf
                refine grd_intro hgd (optK_intro hgj ?_)
                cases bb
                · conv => whnf
                  refine ⟨.inr rfl, .inr rfl, ?_, ?_, ?_, ?_⟩
                  · intro r hr
                    obtain rfl := List.mem_singleton.1 hr
                    rfl
                  · show ((vals args2).length + 1) * 24 ≤ 140737488355328
                    omega
                  · show (vals args2).length + 1 ≤ 140737488355328
                    omega
                  conv => whnf
                  intro hw6
                  refine ⟨bits.length - (j + 1), rxL c d left L i' bits args3 (j + 1), by omega, ?_, j + 1, by omega, rfl, by rw [h3]⟩
                  refine weak2 hw6 rfl ⟨.ptr 0 0 (show 0 < 2 by decide), .ptr 1 0 (show 1 < 2 by decide), .str _, .im _, .im _, .dat _ _ _, .str _, .int hwj, trivial⟩ ?_ (fun id hid => by cases hid) rfl (fun id hid => by cases hid)
                  unfold rxH
                  rw [hrw]
                  exact .cons zM_bw (.cons (.cells _ _ _ (.cons (.im _) (.cons (.im _) (.cons (.dat _ _ _) .nil)))) (.nil _))
                · conv => whnf
                  refine ⟨.inr rfl, .inr rfl, ?_, ?_, ?_, ?_⟩
                  · intro r hr
                    obtain rfl := List.mem_singleton.1 hr
                    rfl
                  · show ((vals args2).length + 1) * 24 ≤ 140737488355328
                    omega
                  · show (vals args2).length + 1 ≤ 140737488355328
                    omega
                  conv => whnf
                  intro hw6
                  refine ⟨bits.length - (j + 1), rxL c d left L i' bits args3 (j + 1), by omega, ?_, j + 1, by omega, rfl, by rw [h3]⟩
                  refine weak2 hw6 rfl ⟨.ptr 0 0 (show 0 < 2 by decide), .ptr 1 0 (show 1 < 2 by decide), .str _, .im _, .im _, .dat _ _ _, .str _, .int hwj, trivial⟩ ?_ (fun id hid => by cases hid) rfl (fun id hid => by cases hid)
                  unfold rxH
                  rw [hrw]
                  exact .cons zM_bw (.cons (.cells _ _ _ (.cons (.im _) (.cons (.im _) (.cons (.dat _ _ _) .nil)))) (.nil _))
              · have hje : j = bits.length := by omega
                rw [hje, List.take_length]
                conv => whnf
                refine br_f (decide_eq_false (by omega)) ?_
                conv => whnf
                intro hw5
                have hdd : (L.drop i').drop bits.length = L.drop (i' + bits.length) := by rw [List.drop_drop]
                rw [hdd] at hinv
                refine ⟨L.length - (i' + 1), rxS c d left L (i' + 1) (args ++ bits.map bitVal), by omega, ?_, i' + 1, i' + bits.length, f, left, args ++ bits.map bitVal, by omega, by omega, rfl, by simp; omega, by omega, Nat.le_trans htl.1 hrl, rfl, fun j h1 h2 => hall2 j (by omega) h2, fun h => ⟨by omega, by rw [show i' + 1 - 1 = i' by omega, hbb, hb98']⟩, fun h _ => absurd rfl (hstop _ h), hinv⟩
                exact weak2 hw5 rfl ⟨.ptr 0 0 (show 0 < 2 by decide), .ptr 1 0 (show 1 < 2 by decide), .str _, .str _, .int hwi, trivial⟩ (rxH_bws _ _ _) (fun id hid => by cases hid) rfl (fun id hid => by cases hid)
        · refine br_f (decide_eq_false (by omega)) ?_
          have hfirst : ¬ (0 < i ∧ L[i - 1]? = some 98) := fun h => hi0 h.1
          have hii2 : i' = i := by
            rcases Nat.lt_or_ge i i' with h | h
            · exact absurd (hskip h) hfirst
            · omega
          subst hii2
          have hdrop : L.drop i' = b :: L.drop (i' + 1) := by rw [List.drop_eq_getElem_cons hil, (List.getElem?_eq_some_iff.1 hbb).2]
          obtain ⟨f, rfl⟩ : ∃ f', f = f' + 1 := ⟨f - 1, by omega⟩
          conv => whnf
          intro hwA
          refine wpc_loop2 (fun n1 s1 => ∃ n : Nat, i' + n ≤ L.length ∧ n1 = L.length - i' - n ∧ s1 = rxK c d rest L i' n args ∧ ∀ j, i' ≤ j → j < i' + n → L[j]? = some 98) (L.length - i') (rxK c d rest L i' 0 args) ?_ ⟨0, by omega, rfl, rfl, fun j h1 h2 => by omega⟩ ?_ ?_
          · exact weak2 hwA rfl ⟨.ptr 0 0 (show 0 < 2 by decide), .ptr 1 0 (show 1 < 2 by decide), .str _, .str _, .im _, .im _, trivial⟩ (rxH_bws _ _ _) (fun id hid => by cases hid) rfl (fun id hid => by cases hid)
          · rintro n1 s1 ⟨n, _, _, rfl, _⟩
            exact ⟨⟨Nat.le_refl 144, fun x hx => by cases hx⟩, rfl, Nat.le_refl _, rfl⟩
          rintro n1 s1 ⟨n, hn, rfl, rfl, hall2⟩
          have hwn : IntKind.i64.wrap ((i' : Int) + (n : Int)) = ((i' + n : Nat) : Int) := by rw [wrap_i64 (by omega) (by omega)]; rfl
          by_cases hk : i' + n < L.length
          · obtain ⟨b2, hb2⟩ := str_get hk
            have hgetb : L[Int.toNat ((i' + n : Nat) : Int)]? = some b2 := hb2
            have hd0 : decide (0 ≤ ((i' + n : Nat) : Int)) = true := decide_eq_true (by omega)
            have hwn1 : IntKind.i64.wrap ((n : Int) + 1) = ((n + 1 : Nat) : Int) := by rw [wrap_i64 (by omega) (by omega)]; rfl
            conv => whnf
            rw [hwn]
            rw [show decide (((i' + n : Nat) : Int) < (L.length : Int)) = true from decide_eq_true (by omega)]
            conv => whnf
            rw [hwn]
            refine grd_intro hd0 (optK_intro hgetb ?_)
            conv => whnf
            by_cases h98 : b2.toNat = 98
            · refine br_t (decide_eq_true (by omega)) ?_
              have hb98 : b2 = 98 := (u8_ne (by decide)).1 h98
              conv => whnf
              intro hw3
              refine ⟨L.length - i' - (n + 1), rxK c d rest L i' (n + 1) args, by omega, ?_, n + 1, by omega, rfl, rfl, fun j h1 h2 => ?_⟩
              · exact weak2 hw3 rfl ⟨.ptr 0 0 (show 0 < 2 by decide), .ptr 1 0 (show 1 < 2 by decide), .str _, .str _, .im _, .int hwn1, trivial⟩ (rxH_bws _ _ _) (fun id hid => by cases hid) rfl (fun id hid => by cases hid)
              · by_cases hjk : j = i' + n
                · rw [hjk, hb2, hb98]
                · exact hall2 j h1 (by omega)
            · refine br_f (decide_eq_false (by omega)) ?_
              have hstop : ∀ x, L[i' + n]? = some x → x ≠ 98 := fun x hx h => h98 (by rw [hb2] at hx; cases hx; rw [h]; rfl)
              conv => whnf
              have hn0 : 0 < n := by
                rcases Nat.eq_zero_or_pos n with h | h
                · subst h
                  exact absurd hb98' (hstop b hbb)
                · exact h
              have hrun := runB_at (L := L) (i := i') (k := i' + n) (by omega) hall2 hstop hn
              have htb := rtakeBits_ct G rest n (by omega)
              have htl := tbits_len rest n
              rw [hdrop, takeL, ← hdrop, hrun, show i' + n - i' = n by omega, if_pos (by omega)] at hinv
              generalize tbits rest n = z at htb htl hinv
              obtain ⟨bits, left, e⟩ := z
              unfold tbV at htb
              simp only at hinv htl
              refine Call2.mono (htb _) fun r0 H0 h => ?_
              obtain ⟨h1, h2⟩ := h
              rw [h1, h2]
              clear h1 h2 r0 H0
              conv => whnf
              by_cases he : e ≠ 0
              · refine br_t (decide_eq_true he) ?_
                rw [if_pos he] at hinv
                conv => whnf
                have hte : tailE left e = e := by unfold tailE; rw [if_neg (by simp [he])]
                refine ⟨_, vw_tupM (vw_metE (l := []) (.inr rfl)), free_tup2 (mcells_free _) (.im _), ?_⟩
                rw [← hinv]
                simp only
                rw [hte, if_pos (.inl he)]
                rfl
              refine br_f (decide_eq_false he) ?_
              rw [if_neg he] at hinv
              have he0 : e = 0 := by simpa using he
              have hbl := htl.2 he0
              subst hbl
              conv => whnf
              intro hwB
              refine wpc_loop2 (fun n1 s1 => ∃ j : Nat, j ≤ bits.length ∧ n1 = bits.length - j ∧ s1 = rxL c d left L i' bits (args ++ (bits.take j).map bitVal) j) bits.length (rxL c d left L i' bits args 0) ?_ ⟨0, by omega, rfl, by simp⟩ ?_ ?_
              · exact weak2 hwB rfl ⟨.ptr 0 0 (show 0 < 2 by decide), .ptr 1 0 (show 1 < 2 by decide), .str _, .im _, .im _, .dat _ _ _, .str _, .im _, trivial⟩ (rxH_bws _ _ _) (fun id hid => by cases hid) rfl (fun id hid => by cases hid)
              · rintro n1 s1 ⟨j, _, _, rfl⟩
                exact ⟨⟨Nat.le_refl 144, fun x hx => by cases hx⟩, rfl, Nat.le_refl _, rfl⟩
              rintro n1 s1 ⟨j, hj, rfl, rfl⟩
              have hal2 : (args ++ (bits.take j).map bitVal).length ≤ 200 := by simp; omega
              by_cases hjl : j < bits.length
              · obtain ⟨bb, hbb2⟩ : ∃ x, bits[j]? = some x := ⟨_, List.getElem?_eq_getElem hjl⟩
                have hgj := bools_get hbb2
                have hgd : (true && true && decide ((0 : Int) ≤ (j : Int))) = true := by simp
                have hwj : IntKind.i64.wrap ((j : Int) + 1) = ((j + 1 : Nat) : Int) := by rw [wrap_i64 (by omega) (by omega)]; rfl
                have htk : (bits.take (j + 1)).map bitVal = (bits.take j).map bitVal ++ [bitVal bb] := by rw [List.take_add_one, hbb2]; simp
                have hrw : vals (args ++ (bits.take (j + 1)).map bitVal) = vals (args ++ (bits.take j).map bitVal) ++ [vcells (bitVal bb)] := by rw [htk, ← List.append_assoc, vals_app]; rfl
                have hvl3 : (vals (args ++ (bits.take j).map bitVal)).length ≤ 200 := by simpa [vals] using hal2
                obtain ⟨args3, h3⟩ : ∃ x, x = args ++ (bits.take (j + 1)).map bitVal := ⟨_, rfl⟩
                rw [← h3] at hrw
                generalize args ++ (bits.take j).map bitVal = args2 at hrw hvl3 ⊢
                conv => whnf
                refine br_t (decide_eq_true (by omega)) ?_
                conv => whnf
                refine grd_intro hgd (optK_intro hgj ?_)
                cases bb
                · conv => whnf
                  refine ⟨.inr rfl, .inr rfl, ?_, ?_, ?_, ?_⟩
                  · intro r hr
                    obtain rfl := List.mem_singleton.1 hr
                    rfl
                  · show ((vals args2).length + 1) * 24 ≤ 140737488355328
                    omega
                  · show (vals args2).length + 1 ≤ 140737488355328
                    omega
                  conv => whnf
                  intro hw6
                  refine ⟨bits.length - (j + 1), rxL c d left L i' bits args3 (j + 1), by omega, ?_, j + 1, by omega, rfl, by rw [h3]⟩
                  refine weak2 hw6 rfl ⟨.ptr 0 0 (show 0 < 2 by decide), .ptr 1 0 (show 1 < 2 by decide), .str _, .im _, .im _, .dat _ _ _, .str _, .int hwj, trivial⟩ ?_ (fun id hid => by cases hid) rfl (fun id hid => by cases hid)
                  unfold rxH
                  rw [hrw]
                  exact .cons zM_bw (.cons (.cells _ _ _ (.cons (.im _) (.cons (.im _) (.cons (.dat _ _ _) .nil)))) (.nil _))
                · conv => whnf
                  refine ⟨.inr rfl, .inr rfl, ?_, ?_, ?_, ?_⟩
                  · intro r hr
                    obtain rfl := List.mem_singleton.1 hr
                    rfl
                  · show ((vals args2).length + 1) * 24 ≤ 140737488355328
                    omega
                  · show (vals args2).length + 1 ≤ 140737488355328
                    omega
                  conv => whnf
                  intro hw6
                  refine ⟨bits.length - (j + 1), rxL c d left L i' bits args3 (j + 1), by omega, ?_, j + 1, by omega, rfl, by rw [h3]⟩
                  refine weak2 hw6 rfl ⟨.ptr 0 0 (show 0 < 2 by decide), .ptr 1 0 (show 1 < 2 by decide), .str _, .im _, .im _, .dat _ _ _, .str _, .int hwj, trivial⟩ ?_ (fun id hid => by cases hid) rfl (fun id hid => by cases hid)
                  unfold rxH
                  rw [hrw]
                  exact .cons zM_bw (.cons (.cells _ _ _ (.cons (.im _) (.cons (.im _) (.cons (.dat _ _ _) .nil)))) (.nil _))
              · have hje : j = bits.length := by omega
                rw [hje, List.take_length]
                conv => whnf
                refine br_f (decide_eq_false (by omega)) ?_
                conv => whnf
                intro hw5
                have hdd : (L.drop i').drop bits.length = L.drop (i' + bits.length) := by rw [List.drop_drop]
                rw [hdd] at hinv
                refine ⟨L.length - (i' + 1), rxS c d left L (i' + 1) (args ++ bits.map bitVal), by omega, ?_, i' + 1, i' + bits.length, f, left, args ++ bits.map bitVal, by omega, by omega, rfl, by simp; omega, by omega, Nat.le_trans htl.1 hrl, rfl, fun j h1 h2 => hall2 j (by omega) h2, fun h => ⟨by omega, by rw [show i' + 1 - 1 = i' by omega, hbb, hb98']⟩, fun h _ => absurd rfl (hstop _ h), hinv⟩
                exact weak2 hw5 rfl ⟨.ptr 0 0 (show 0 < 2 by decide), .ptr 1 0 (show 1 < 2 by decide), .str _, .str _, .int hwi, trivial⟩ (rxH_bws _ _ _) (fun id hid => by cases hid) rfl (fun id hid => by cases hid)
          · have hke : i' + n = L.length := by omega
            have hstop : ∀ x, L[i' + n]? = some x → x ≠ 98 := fun x hx => by
              rw [hke] at hx; simp at hx
            conv => whnf
            rw [hwn]
            rw [show decide (((i' + n : Nat) : Int) < (L.length : Int)) = false from decide_eq_false (by omega)]
            conv => whnf
            have hn0 : 0 < n := by
              rcases Nat.eq_zero_or_pos n with h | h
              · subst h
                exact absurd hb98' (hstop b hbb)
              · exact h
            have hrun := runB_at (L := L) (i := i') (k := i' + n) (by omega) hall2 hstop hn
            have htb := rtakeBits_ct G rest n (by omega)
            have htl := tbits_len rest n
            rw [hdrop, takeL, ← hdrop, hrun, show i' + n - i' = n by omega, if_pos (by omega)] at hinv
            generalize tbits rest n = z at htb htl hinv
            obtain ⟨bits, left, e⟩ := z
            unfold tbV at htb
            simp only at hinv htl
            refine Call2.mono (htb _) fun r0 H0 h => ?_
            obtain ⟨h1, h2⟩ := h
            rw [h1, h2]
            clear h1 h2 r0 H0
            conv => whnf
            by_cases he : e ≠ 0
            · refine br_t (decide_eq_true he) ?_
              rw [if_pos he] at hinv
              conv => whnf
              have hte : tailE left e = e := by unfold tailE; rw [if_neg (by simp [he])]
              refine ⟨_, vw_tupM (vw_metE (l := []) (.inr rfl)), free_tup2 (mcells_free _) (.im _), ?_⟩
              rw [← hinv]
              simp only
              rw [hte, if_pos (.inl he)]
              rfl
            refine br_f (decide_eq_false he) ?_
            rw [if_neg he] at hinv
            have he0 : e = 0 := by simpa using he
            have hbl := htl.2 he0
            subst hbl
            conv => whnf
            intro hwB
            refine wpc_loop2 (fun n1 s1 => ∃ j : Nat, j ≤ bits.length ∧ n1 = bits.length - j ∧ s1 = rxL c d left L i' bits (args ++ (bits.take j).map bitVal) j) bits.length (rxL c d left L i' bits args 0) ?_ ⟨0, by omega, rfl, by simp⟩ ?_ ?_
            · exact weak2 hwB rfl ⟨.ptr 0 0 (show 0 < 2 by decide), .ptr 1 0 (show 1 < 2 by decide), .str _, .im _, .im _, .dat _ _ _, .str _, .im _, trivial⟩ (rxH_bws _ _ _) (fun id hid => by cases hid) rfl (fun id hid => by cases hid)
            · rintro n1 s1 ⟨j, _, _, rfl⟩
              exact ⟨⟨Nat.le_refl 144, fun x hx => by cases hx⟩, rfl, Nat.le_refl _, rfl⟩
            rintro n1 s1 ⟨j, hj, rfl, rfl⟩
            have hal2 : (args ++ (bits.take j).map bitVal).length ≤ 200 := by simp; omega
            by_cases hjl : j < bits.length
            · obtain ⟨bb, hbb2⟩ : ∃ x, bits[j]? = some x := ⟨_, List.getElem?_eq_getElem hjl⟩
              have hgj := bools_get hbb2
              have hgd : (true && true && decide ((0 : Int) ≤ (j : Int))) = true := by simp
              have hwj : IntKind.i64.wrap ((j : Int) + 1) = ((j + 1 : Nat) : Int) := by rw [wrap_i64 (by omega) (by omega)]; rfl
              have htk : (bits.take (j + 1)).map bitVal = (bits.take j).map bitVal ++ [bitVal bb] := by rw [List.take_add_one, hbb2]; simp
              have hrw : vals (args ++ (bits.take (j + 1)).map bitVal) = vals (args ++ (bits.take j).map bitVal) ++ [vcells (bitVal bb)] := by rw [htk, ← List.append_assoc, vals_app]; rfl
              have hvl3 : (vals (args ++ (bits.take j).map bitVal)).length ≤ 200 := by simpa [vals] using hal2
              obtain ⟨args3, h3⟩ : ∃ x, x = args ++ (bits.take (j + 1)).map bitVal := ⟨_, rfl⟩
              rw [← h3] at hrw
              generalize args ++ (bits.take j).map bitVal = args2 at hrw hvl3 ⊢
              conv => whnf
              refine br_t (decide_eq_true (by omega)) ?_
              conv => whnf
              refine grd_intro hgd (optK_intro hgj ?_)
              cases bb
              · conv => whnf
                refine ⟨.inr rfl, .inr rfl, ?_, ?_, ?_, ?_⟩
                · intro r hr
                  obtain rfl := List.mem_singleton.1 hr
                  rfl
                · show ((vals args2).length + 1) * 24 ≤ 140737488355328
                  omega
                · show (vals args2).length + 1 ≤ 140737488355328
                  omega
                conv => whnf
                intro hw6
                refine ⟨bits.length - (j + 1), rxL c d left L i' bits args3 (j + 1), by omega, ?_, j + 1, by omega, rfl, by rw [h3]⟩
                refine weak2 hw6 rfl ⟨.ptr 0 0 (show 0 < 2 by decide), .ptr 1 0 (show 1 < 2 by decide), .str _, .im _, .im _, .dat _ _ _, .str _, .int hwj, trivial⟩ ?_ (fun id hid => by cases hid) rfl (fun id hid => by cases hid)
                unfold rxH
                rw [hrw]
                exact .cons zM_bw (.cons (.cells _ _ _ (.cons (.im _) (.cons (.im _) (.cons (.dat _ _ _) .nil)))) (.nil _))
              · conv => whnf
                refine ⟨.inr rfl, .inr rfl, ?_, ?_, ?_, ?_⟩
                · intro r hr
                  obtain rfl := List.mem_singleton.1 hr
                  rfl
                · show ((vals args2).length + 1) * 24 ≤ 140737488355328
                  omega
                · show (vals args2).length + 1 ≤ 140737488355328
                  omega
                conv => whnf
                intro hw6
                refine ⟨bits.length - (j + 1), rxL c d left L i' bits args3 (j + 1), by omega, ?_, j + 1, by omega, rfl, by rw [h3]⟩
                refine weak2 hw6 rfl ⟨.ptr 0 0 (show 0 < 2 by decide), .ptr 1 0 (show 1 < 2 by decide), .str _, .im _, .im _, .dat _ _ _, .str _, .int hwj, trivial⟩ ?_ (fun id hid => by cases hid) rfl (fun id hid => by cases hid)
                unfold rxH
                rw [hrw]
                exact .cons zM_bw (.cons (.cells _ _ _ (.cons (.im _) (.cons (.im _) (.cons (.dat _ _ _) .nil)))) (.nil _))
            · have hje : j = bits.length := by omega
              rw [hje, List.take_length]
              conv => whnf
              refine br_f (decide_eq_false (by omega)) ?_
              conv => whnf
              intro hw5
              have hdd : (L.drop i').drop bits.length = L.drop (i' + bits.length) := by rw [List.drop_drop]
              rw [hdd] at hinv
              refine ⟨L.length - (i' + 1), rxS c d left L (i' + 1) (args ++ bits.map bitVal), by omega, ?_, i' + 1, i' + bits.length, f, left, args ++ bits.map bitVal, by omega, by omega, rfl, by simp; omega, by omega, Nat.le_trans htl.1 hrl, rfl, fun j h1 h2 => hall2 j (by omega) h2, fun h => ⟨by omega, by rw [show i' + 1 - 1 = i' by omega, hbb, hb98']⟩, fun h _ => absurd rfl (hstop _ h), hinv⟩
              exact weak2 hw5 rfl ⟨.ptr 0 0 (show 0 < 2 by decide), .ptr 1 0 (show 1 < 2 by decide), .str _, .str _, .int hwi, trivial⟩ (rxH_bws _ _ _) (fun id hid => by cases hid) rfl (fun id hid => by cases hid)
      · have hb98' : b ≠ 98 := fun h => h98 (by rw [h]; rfl)
        refine br_t (decide_eq_true (by omega)) ?_
        have hii2 : i' = i := by
          rcases Nat.lt_or_ge i i' with h | h
          · have := hall i (Nat.le_refl _) h
            rw [hbb] at this
            exact absurd (Option.some.inj this) hb98'
          · omega
        subst hii2
        have hdrop : L.drop i' = b :: L.drop (i' + 1) := by rw [List.drop_eq_getElem_cons hil, (List.getElem?_eq_some_iff.1 hbb).2]
        obtain ⟨f, rfl⟩ : ∃ f', f = f' + 1 := ⟨f - 1, by omega⟩
        have hrun0 : ¬ runB (b :: L.drop (i' + 1)) > 0 := by unfold runB; rw [if_neg hb98']; omega
        rw [hdrop, takeL, if_neg hrun0] at hinv
        have hval := rvalue6_ct G (hlets (List.mem_of_getElem? hbb)) hb98' rest hrl
        have hvll := valueF_len b rest
        generalize valueF b rest = z at hval hvll hinv
        obtain ⟨v, left, e⟩ := z
        unfold vfV at hval
        simp only at hinv hvll
        conv => whnf
        refine grd_intro hd0 (optK_intro hgb ?_)
        conv => whnf
        refine Call2.mono (hval _) fun r0 H0 h => ?_
        obtain ⟨h1, h2⟩ := h
        rw [h1, h2]
        clear h1 h2 r0 H0
        conv => whnf
        by_cases he : e ≠ 0
        · refine br_t (decide_eq_true he) ?_
          rw [if_pos he] at hinv
          conv => whnf
          have hte : tailE left e = e := by unfold tailE; rw [if_neg (by simp [he])]
          refine ⟨_, vw_tupM (vw_metE (l := []) (.inr rfl)), free_tup2 (mcells_free _) (.im _), ?_⟩
          rw [← hinv]
          simp only
          rw [hte, if_pos (.inl he)]
          rfl
        refine br_f (decide_eq_false he) ?_
        rw [if_neg he] at hinv
        have hrw : vals (args ++ [v]) = vals args ++ [vcells v] := by rw [vals_app]; rfl
        have hvl3 : (vals args).length ≤ 200 := by simp [vals]; omega
        conv => whnf
        refine ⟨.inr rfl, .inr rfl, ?_, ?_, ?_, ?_⟩
        · intro r hr
          obtain rfl := List.mem_singleton.1 hr
          rfl
        · show ((vals args).length + 1) * 24 ≤ 140737488355328
          omega
        · show (vals args).length + 1 ≤ 140737488355328
          omega
        conv => whnf
        intro hw6
        refine ⟨L.length - (i' + 1), rxS c d left L (i' + 1) (args ++ [v]), by omega, ?_, i' + 1, i' + 1, f, left, args ++ [v], by omega, by omega, rfl, by simp; omega, by omega, Nat.le_trans hvll hrl, rfl, fun j h1 h2 => by omega, fun h => by omega, fun _ _ => by rw [show i' + 1 - 1 = i' by omega, hbb]; exact fun h => hb98' (Option.some.inj h), hinv⟩
        refine weak2 hw6 rfl ⟨.ptr 0 0 (show 0 < 2 by decide), .ptr 1 0 (show 1 < 2 by decide), .str _, .str _, .int hwi, trivial⟩ ?_ (fun id hid => by cases hid) rfl (fun id hid => by cases hid)
        unfold rxH
        rw [hrw]
        exact .cons zM_bw (.cons (.cells _ _ _ (.cons (.im _) (.cons (.im _) (.cons (.dat _ _ _) .nil)))) (.nil _))
    · have hie : i = L.length := by omega
      have hie' : i' = L.length := by omega
      have hfin : takeL f (L.drop i') rest args = (args, rest, 0) := by rw [hie', List.drop_length]; cases f <;> rfl
      rw [hfin] at hinv
      subst hinv
      simp only at hrt ⊢
      conv => whnf
      refine br_f (decide_eq_false (by omega)) ?_
      conv => whnf
      by_cases hr : rest = []
      · subst hr
        have hte : tailE [] 0 = 0 := by unfold tailE; rw [if_neg (by simp)]
        rw [hte]
        obtain ⟨R, hR⟩ : ∃ R, mright tbv (c, d, args) = R := ⟨_, rfl⟩
        rw [hR] at hrt ⊢
        conv => whnf
        refine Call2.weakA (args' := [.agg (mcells (c, d, args))]) (.cons (vw_metE (.inl rfl)) .nil) (Call2.mono (hrt _) fun r0 H0 h => ?_)
        obtain ⟨h1, h2⟩ := h
        rw [h1, h2]
        clear h1 h2 r0 H0
        conv => whnf
        by_cases hR0 : R ≠ 0
        · refine br_t (decide_eq_true hR0) ?_
          conv => whnf
          refine ⟨_, vw_tupM (vw_metE (l := []) (.inr rfl)), free_tup2 (mcells_free _) (.im _), ?_⟩
          rw [if_pos (.inr hR0)]
          rfl
        · refine br_f (decide_eq_false hR0) ?_
          conv => whnf
          refine ⟨_, vw_tupM (vw_metE (l := args) (.inl rfl)), free_tup2 (mcells_free _) (.im _), ?_⟩
          rw [if_neg (fun h => h.elim (fun h => h rfl) hR0)]
      · have hte : tailE rest 0 = 7 := by unfold tailE; rw [if_pos ⟨rfl, hr⟩]
        have hrp : 0 < rest.length := List.length_pos_iff.2 hr
        rw [hte]
        refine br_t (decide_eq_true (by omega)) ?_
        conv => whnf
        refine ⟨_, vw_tupM (vw_metE (l := []) (.inr rfl)), free_tup2 (mcells_free _) (.im _), ?_⟩
        rw [if_pos (.inl (by decide))]
        rfl
end Go.Abs.Sig

/-! S1 -/
namespace Go.Abs.Sig
open Go.RowKit Go.Abs
set_option linter.unusedSimpArgs false
set_option linter.unusedVariables false
set_option maxRecDepth 8000

section
attribute [local irreducible] StCall StYield WPc Weak IterOf Lp2 encM mright

theorem Take6_few (s : List UInt8) : (Take6 s).1.2.2.length ≤ 64 := by
  by_cases h : (Take6 s).2 = 0
  · have h1 := Take6_ok (s := s) (m := (Take6 s).1) (Prod.ext rfl h)
    have h2 := ((mright_zero tbv _).1 h1.1).2.1
    rw [← h2]
    exact tab_short64 _ _
  · rw [Take6_err h]
    exact Nat.zero_le _

set_option maxHeartbeats 4000000 in
theorem methodTakes_ct (G : Nat → Option (List V)) (hG : G 1 = some wV) (m : Met) (s : List UInt8) (o : Met) (hm : OkMet m) (sm : ∀ v ∈ m.2.2, v.2.length ≤ maxBytes) (hrng : ∀ v ∈ m.2.2, Rng v) (hlm : m.2.2.length ≤ maxLen) (hs : s.length ≤ maxBytes) (H : Heap) :
    Call2 Go.Proofs.Tryd.prog G 13 [.agg (mcells m), .str s, .agg (mcells o)] H fun r H' => H' = H ∧ r = .bool true := by
  refine Call2.free (fun x hx => by
    simp only [List.mem_cons, List.not_mem_nil, or_false] at hx
    rcases hx with rfl | rfl | rfl
    · exact mcells_free _
    · exact .str _
    · exact mcells_free _) ?_ H
  refine stCall2 Go.Proofs.Tryd.func13 rfl (by decide) ?_
  have h1 := mbytesT_ct G hG m sm
  have h2 := rbytes_ct G m (okM_of hm) hrng sm
  have h3 := mTake_ct G hG s (le_maxStr hs)
  have h4 := rTake_ct G s (le_maxStr hs)
  have h5 := make_ct G hG m.1 m.2.1 m.2.2 (fun v hv => le_maxStr (sm v hv))
  have h6 := mrightT_ct G hG m (fun v hv => le_maxStr (sm v hv))
  have h7 := msame_ct G m o hlm
  have h8 := rsame_ct G m o hlm
  have hfew := Take6_few s
  have h9 := rsame_ct G m m hlm
  rw [show decide (m = m) = true from decide_eq_true rfl] at h9
  generalize Take6 s = z at h3 h4 hfew
  obtain ⟨x, g⟩ := z
  have h10 := rsame_ct G x x (Nat.le_trans hfew (by decide))
  rw [show decide (x = x) = true from decide_eq_true rfl] at h10
  simp only at h3 h4
  generalize decide (m = o) = same at h7 h8
  by_cases he : mright tbv m ≠ 0
  · rw [mbytes_wrong he] at h1
    rw [if_pos he] at h2 h5
    generalize mright tbv m = e at h1 h2 h5 h6 he
    obtain ⟨c, d, l⟩ := m
    obtain ⟨x1, x2, xl⟩ := x
    obtain ⟨o1, o2, ol⟩ := o
    conv => whnf
    refine Call2.mono (shownM_ct G hG _) fun r0 H0 h => ?_
    obtain ⟨h1, h2⟩ := h
    rw [h1, h2]
    clear h1 h2 r0 H0
    conv => whnf
    refine Call2.mono (h1 _) fun r0 H0 h => ?_
    obtain ⟨h1, h2⟩ := h
    rw [h1, h2]
    clear h1 h2 r0 H0
    conv => whnf
    refine Call2.mono (h2 _) fun r0 H0 h => ?_
    obtain ⟨h1, h2⟩ := h
    rw [h1, h2]
    clear h1 h2 r0 H0
    conv => whnf
    refine Call2.mono (h3 _) fun r0 H0 h => ?_
    obtain ⟨h1, h2⟩ := h
    rw [h1, h2]
    clear h1 h2 r0 H0
    conv => whnf
    refine Call2.mono (h4 _) fun r0 H0 h => ?_
    obtain ⟨h1, h2⟩ := h
    rw [h1, h2]
    clear h1 h2 r0 H0
    conv => whnf
    refine Call2.mono (h5 _) fun r0 H0 h => ?_
    obtain ⟨h1, h2⟩ := h
    rw [h1, h2]
    clear h1 h2 r0 H0
    conv => whnf
    refine Call2.mono (h10 _) fun r0 H0 h => ?_
    obtain ⟨h1, h2⟩ := h
    rw [h1, h2]
    clear h1 h2 r0 H0
    conv => whnf
    refine br_t (decide_eq_true he) ?_
    conv => whnf
    intro hw
    refine wpc_draw2 43 (by rfl) (by decide) (by kernel_rfl) hw ?_
    conv => whnf
    refine br_t (decide_eq_true rfl) ?_
    conv => whnf
    refine br_t (decide_eq_true rfl) ?_
    conv => whnf
    refine br_t (show bsel true (decide (e = e)) false = true from decide_eq_true rfl) ?_
    conv => whnf
    refine ⟨_, fun X _ => h6 _, ?_⟩
    conv => whnf
    refine br_t (show bsel true (decide (e = e)) false = true from decide_eq_true rfl) ?_
    conv => whnf
    refine ⟨_, fun X _ => h7 _, ?_⟩
    conv => whnf
    refine ⟨_, fun X _ => h8 _, ?_⟩
    conv => whnf
    refine ⟨.im _, ?_⟩
    cases same <;> rfl
  · have he0 : mright tbv m = 0 := by simpa using he
    rw [mbytes_right he0] at h1
    rw [if_neg he, he0] at h2 h5
    rw [he0] at h6
    obtain ⟨c, d, l⟩ := m
    obtain ⟨x1, x2, xl⟩ := x
    obtain ⟨o1, o2, ol⟩ := o
    generalize encM (c, d, l) = ea at h1 h2
    conv => whnf
    refine Call2.mono (shownM_ct G hG _) fun r0 H0 h => ?_
    obtain ⟨h1, h2⟩ := h
    rw [h1, h2]
    clear h1 h2 r0 H0
    conv => whnf
    refine Call2.mono (h1 _) fun r0 H0 h => ?_
    obtain ⟨h1, h2⟩ := h
    rw [h1, h2]
    clear h1 h2 r0 H0
    conv => whnf
    refine Call2.mono (h2 _) fun r0 H0 h => ?_
    obtain ⟨h1, h2⟩ := h
    rw [h1, h2]
    clear h1 h2 r0 H0
    conv => whnf
    refine Call2.mono (h3 _) fun r0 H0 h => ?_
    obtain ⟨h1, h2⟩ := h
    rw [h1, h2]
    clear h1 h2 r0 H0
    conv => whnf
    refine Call2.mono (h4 _) fun r0 H0 h => ?_
    obtain ⟨h1, h2⟩ := h
    rw [h1, h2]
    clear h1 h2 r0 H0
    conv => whnf
    refine Call2.mono (h5 _) fun r0 H0 h => ?_
    obtain ⟨h1, h2⟩ := h
    rw [h1, h2]
    clear h1 h2 r0 H0
    conv => whnf
    refine Call2.mono (h10 _) fun r0 H0 h => ?_
    obtain ⟨h1, h2⟩ := h
    rw [h1, h2]
    clear h1 h2 r0 H0
    conv => whnf
    refine Call2.mono (h9 _) fun r0 H0 h => ?_
    obtain ⟨h1, h2⟩ := h
    rw [h1, h2]
    clear h1 h2 r0 H0
    conv => whnf
    intro hw
    refine wpc_draw2 43 (by rfl) (by decide) (by kernel_rfl) hw ?_
    conv => whnf
    refine br_t (decide_eq_true rfl) ?_
    conv => whnf
    refine br_t (decide_eq_true rfl) ?_
    conv => whnf
    refine ⟨_, fun X _ => h6 _, ?_⟩
    conv => whnf
    refine ⟨_, fun X _ => h7 _, ?_⟩
    conv => whnf
    refine ⟨_, fun X _ => h8 _, ?_⟩
    conv => whnf
    refine ⟨.im _, ?_⟩
    cases same <;> rfl
end
end Go.Abs.Sig

/-! W6 -/
namespace Go.Abs.Sig
open Go.RowKit Go.Abs
set_option linter.unusedSimpArgs false
set_option linter.unusedVariables false
set_option maxRecDepth 8000

theorem methodTakes_walk (xs : List V) (h : ShAll Go.Proofs.Tryd.prog 8 (#[26, 9, 26] : Array TypeId).toList xs) : Call2 Go.Proofs.Tryd.prog GW 13 xs [] fun r H' => H' = [] ∧ r = .bool true := by
  obtain ⟨x1, r1, h1, ⟨x2, r2, h2, ⟨x3, r3, h3, rfl, rfl⟩, rfl⟩, rfl⟩ := h
  obtain ⟨m, rfl, hm⟩ := shv_met h1
  obtain ⟨s, rfl, hs⟩ := shv_str h2
  obtain ⟨o, rfl, ho⟩ := shv_met h3
  have hb : m.2.2.length * 24 ≤ 140737488351232 := hm.2.2.1
  refine methodTakes_ct GW GW1 m s o hm (okMet_str hm) (fun v hv => ?_) ?_ (Nat.le_trans hs (by decide)) []
  · have := okM_of hm v hv
    unfold OkN at this
    unfold Rng
    omega
  · show m.2.2.length ≤ 2 ^ 63 - 1
    omega
end Go.Abs.Sig
