/- The walks of some functions: what they compute. -/
import Derived.Test.YteklnflddoekfaaDoorM6
namespace Go.Abs.Sig
open Go.RowKit Go.Abs
set_option linter.unusedSimpArgs false
set_option linter.unusedVariables false
set_option maxRecDepth 8000
attribute [local irreducible] StCall StYield WPc Weak IterOf Call2 Lp2

def rwidth (c : UInt8) : Int := if c = 111 then 1 else if c = 115 then 2 else if c = 108 then 4 else if c = 113 then 8 else 0
theorem u8_eq {c : UInt8} {n : Nat} (h : n < 256) : decide ((c.toNat : Int) = (n : Int)) = decide (c = UInt8.ofNat n) := by
  rw [decide_eq_decide]
  constructor
  · intro h'
    have : c.toNat = n := by omega
    rw [← this]; simp
  · intro h'
    rw [h']
    simp [UInt8.toNat_ofNat', Nat.mod_eq_of_lt h]

theorem rwidth_ct (G : Nat → Option (List V)) (c : UInt8) (H : Heap) : Call2 Go.Proofs.Tryd.prog G 55 [.int .u8 (c.toNat : Int)] H fun r H' => H' = H ∧ r = .int .i64 (rwidth c) := by
  refine Call2.free (fun x hx => by
    simp only [List.mem_cons, List.not_mem_nil, or_false] at hx
    subst hx
    exact .im _) ?_ H
  refine stCall2 Go.Proofs.Tryd.func55 rfl (by decide) ?_
  unfold rwidth
  conv => whnf
  refine br_intro (fun h => ?_) (fun h => ?_)
  · have h' : c = 111 := by
      have : decide ((c.toNat : Int) = ((111 : Nat) : Int)) = true := h
      rw [u8_eq (by decide)] at this
      simpa using this
    rw [if_pos h']
    conv => whnf
    exact ⟨.im _, rfl⟩
  have h0 : ¬ c = 111 := by
    have : decide ((c.toNat : Int) = ((111 : Nat) : Int)) = false := h
    rw [u8_eq (by decide)] at this
    simpa using this
  rw [if_neg h0]
  clear h
  conv => whnf
  refine br_intro (fun h => ?_) (fun h => ?_)
  · have h' : c = 115 := by
      have : decide ((c.toNat : Int) = ((115 : Nat) : Int)) = true := h
      rw [u8_eq (by decide)] at this
      simpa using this
    rw [if_pos h']
    conv => whnf
    exact ⟨.im _, rfl⟩
  have h1 : ¬ c = 115 := by
    have : decide ((c.toNat : Int) = ((115 : Nat) : Int)) = false := h
    rw [u8_eq (by decide)] at this
    simpa using this
  rw [if_neg h1]
  clear h
  conv => whnf
  refine br_intro (fun h => ?_) (fun h => ?_)
  · have h' : c = 108 := by
      have : decide ((c.toNat : Int) = ((108 : Nat) : Int)) = true := h
      rw [u8_eq (by decide)] at this
      simpa using this
    rw [if_pos h']
    conv => whnf
    exact ⟨.im _, rfl⟩
  have h2 : ¬ c = 108 := by
    have : decide ((c.toNat : Int) = ((108 : Nat) : Int)) = false := h
    rw [u8_eq (by decide)] at this
    simpa using this
  rw [if_neg h2]
  clear h
  conv => whnf
  refine br_intro (fun h => ?_) (fun h => ?_)
  · have h' : c = 113 := by
      have : decide ((c.toNat : Int) = ((113 : Nat) : Int)) = true := h
      rw [u8_eq (by decide)] at this
      simpa using this
    rw [if_pos h']
    conv => whnf
    exact ⟨.im _, rfl⟩
  have h3 : ¬ c = 113 := by
    have : decide ((c.toNat : Int) = ((113 : Nat) : Int)) = false := h
    rw [u8_eq (by decide)] at this
    simpa using this
  rw [if_neg h3]
  clear h
  conv => whnf
  exact ⟨.im _, rfl⟩

theorem u8w (x : Int) : ((UInt8.ofNat (IntKind.u8.wrap x).toNat).toNat : Int) = IntKind.u8.wrap x := by
  have h : 0 ≤ IntKind.u8.wrap x ∧ IntKind.u8.wrap x < 256 := by
    simp only [IntKind.wrap, IntKind.bits, IntKind.signed]
    simp
    omega
  rw [UInt8.toNat_ofNat', Nat.mod_eq_of_lt (by omega)]
  omega

def putL : Nat → Int → List UInt8 → Int × List UInt8
  | 0, v, s => (v, s)
  | k + 1, v, s => putL k (IntKind.u64.wrap (v.tdiv 256)) (UInt8.ofNat (IntKind.u8.wrap (v.tmod 256)).toNat :: s)
def rput (n : Nat) (v : Int) : List UInt8 × Int := if decide (0 < (putL n v []).1) then ([], 4) else ((putL n v []).2, 0)

def rpS (n : Nat) (v : Int) (s : List UInt8) (j : Nat) : S2 := headS 39 ([.int .i64 (n : Int), .int .u64 v, .bad, .bad, .bad, .bad, .str s, .int .i64 (j : Int)] ++ List.replicate 31 .bad) [] [] none

theorem rput_ct (G : Nat → Option (List V)) (n : Nat) (hn : n = 1 ∨ n = 2 ∨ n = 4 ∨ n = 8) (v : Int) (H : Heap) : Call2 Go.Proofs.Tryd.prog G 51 [.int .i64 (n : Int), .int .u64 v] H fun r H' => H' = H ∧ r = .tup [.str (rput n v).1, .int .i64 (rput n v).2] := by
  refine Call2.free (fun x hx => by
    simp only [List.mem_cons, List.not_mem_nil, or_false] at hx
    rcases hx with rfl | rfl <;> exact .im _) ?_ H
  refine stCall2 Go.Proofs.Tryd.func51 rfl (by decide) ?_
  rcases hn with rfl | rfl | rfl | rfl
  · conv => whnf
    intro hw
    refine wpc_loop2 (fun m1 s1 => ∃ (j : Nat) (v' : Int) (s : List UInt8), j + m1 = 1 ∧ s.length = j ∧ s1 = rpS 1 v' s j ∧ putL m1 v' s = putL 1 v []) 1 (rpS 1 v [] 0) ?_ ⟨0, v, [], by omega, rfl, rfl, rfl⟩ ?_ ?_
    · exact weak2 hw rfl ⟨.im _, .im _, .str _, .im _, trivial⟩ (.nil _) (fun id hid => by cases hid) rfl (fun id hid => by cases hid)
    · rintro m1 s1 ⟨j, v', s, _, _, rfl, _⟩
      exact ⟨⟨Nat.le_refl 39, fun x hx => by cases hx⟩, rfl, Nat.le_refl 0, rfl⟩
    · rintro m1 s1 ⟨j, v', s, hj, hs, rfl, hp⟩
      have hwj : IntKind.i64.wrap ((j : Int) + 1) = ((j + 1 : Nat) : Int) := by rw [wrap_i64 (by omega) (by omega)]; rfl
      conv => whnf
      refine br_intro (fun hlt => ?_) (fun hge => ?_)
      · have hlt' : decide ((j : Int) < ((1 : Nat) : Int)) = true := hlt
        rw [decide_eq_true_eq] at hlt'
        obtain ⟨m2, rfl⟩ : ∃ m2, m1 = m2 + 1 := ⟨m1 - 1, by omega⟩
        conv => whnf
        refine ⟨by decide, ?_⟩
        conv => whnf
        refine ⟨rfl, .inr rfl, [UInt8.ofNat (IntKind.u8.wrap (v'.tmod 256)).toNat], ?_, ?_⟩
        · show [[V.int .u8 (IntKind.u8.wrap (v'.tmod 256))]] = [[V.int .u8 _]]
          rw [u8w]
        conv => whnf
        refine ⟨?_, ?_⟩
        · show ((1 + s.length : Nat) : Int) ≤ 9223372036854775807
          omega
        conv => whnf
        refine ⟨by decide, ?_⟩
        conv => whnf
        intro hw2
        refine ⟨m2, rpS 1 (IntKind.u64.wrap (v'.tdiv 256)) (UInt8.ofNat (IntKind.u8.wrap (v'.tmod 256)).toNat :: s) (j + 1), by omega, ?_, j + 1, _, _, by omega, by simp [hs], rfl, hp⟩
        exact weak2 hw2 rfl ⟨.im _, .im _, .str _, .int hwj, trivial⟩ (.nil _) (fun id hid => by cases hid) rfl (fun id hid => by cases hid)
      · have hge' : decide ((j : Int) < ((1 : Nat) : Int)) = false := hge
        rw [decide_eq_false_iff_not] at hge'
        obtain rfl : m1 = 0 := by omega
        have hv : v' = (putL 1 v []).1 := congrArg Prod.fst hp
        have hs' : s = (putL 1 v []).2 := congrArg Prod.snd hp
        unfold rput
        rw [← hv, ← hs']
        conv => whnf
        refine br_intro (fun h2 => ?_) (fun h2 => ?_)
        · have h2' : decide (0 < v') = true := h2
          rw [h2']
          conv => whnf
          exact ⟨free_tup2 (.str _) (.im _), rfl⟩
        · have h2' : decide (0 < v') = false := h2
          rw [h2']
          conv => whnf
          exact ⟨free_tup2 (.str _) (.im _), rfl⟩
  · conv => whnf
    intro hw
    refine wpc_loop2 (fun m1 s1 => ∃ (j : Nat) (v' : Int) (s : List UInt8), j + m1 = 2 ∧ s.length = j ∧ s1 = rpS 2 v' s j ∧ putL m1 v' s = putL 2 v []) 2 (rpS 2 v [] 0) ?_ ⟨0, v, [], by omega, rfl, rfl, rfl⟩ ?_ ?_
    · exact weak2 hw rfl ⟨.im _, .im _, .str _, .im _, trivial⟩ (.nil _) (fun id hid => by cases hid) rfl (fun id hid => by cases hid)
    · rintro m1 s1 ⟨j, v', s, _, _, rfl, _⟩
      exact ⟨⟨Nat.le_refl 39, fun x hx => by cases hx⟩, rfl, Nat.le_refl 0, rfl⟩
    · rintro m1 s1 ⟨j, v', s, hj, hs, rfl, hp⟩
      have hwj : IntKind.i64.wrap ((j : Int) + 1) = ((j + 1 : Nat) : Int) := by rw [wrap_i64 (by omega) (by omega)]; rfl
      conv => whnf
      refine br_intro (fun hlt => ?_) (fun hge => ?_)
      · have hlt' : decide ((j : Int) < ((2 : Nat) : Int)) = true := hlt
        rw [decide_eq_true_eq] at hlt'
        obtain ⟨m2, rfl⟩ : ∃ m2, m1 = m2 + 1 := ⟨m1 - 1, by omega⟩
        conv => whnf
        refine ⟨by decide, ?_⟩
        conv => whnf
        refine ⟨rfl, .inr rfl, [UInt8.ofNat (IntKind.u8.wrap (v'.tmod 256)).toNat], ?_, ?_⟩
        · show [[V.int .u8 (IntKind.u8.wrap (v'.tmod 256))]] = [[V.int .u8 _]]
          rw [u8w]
        conv => whnf
        refine ⟨?_, ?_⟩
        · show ((1 + s.length : Nat) : Int) ≤ 9223372036854775807
          omega
        conv => whnf
        refine ⟨by decide, ?_⟩
        conv => whnf
        intro hw2
        refine ⟨m2, rpS 2 (IntKind.u64.wrap (v'.tdiv 256)) (UInt8.ofNat (IntKind.u8.wrap (v'.tmod 256)).toNat :: s) (j + 1), by omega, ?_, j + 1, _, _, by omega, by simp [hs], rfl, hp⟩
        exact weak2 hw2 rfl ⟨.im _, .im _, .str _, .int hwj, trivial⟩ (.nil _) (fun id hid => by cases hid) rfl (fun id hid => by cases hid)
      · have hge' : decide ((j : Int) < ((2 : Nat) : Int)) = false := hge
        rw [decide_eq_false_iff_not] at hge'
        obtain rfl : m1 = 0 := by omega
        have hv : v' = (putL 2 v []).1 := congrArg Prod.fst hp
        have hs' : s = (putL 2 v []).2 := congrArg Prod.snd hp
        unfold rput
        rw [← hv, ← hs']
        conv => whnf
        refine br_intro (fun h2 => ?_) (fun h2 => ?_)
        · have h2' : decide (0 < v') = true := h2
          rw [h2']
          conv => whnf
          exact ⟨free_tup2 (.str _) (.im _), rfl⟩
        · have h2' : decide (0 < v') = false := h2
          rw [h2']
          conv => whnf
          exact ⟨free_tup2 (.str _) (.im _), rfl⟩
  · conv => whnf
    intro hw
    refine wpc_loop2 (fun m1 s1 => ∃ (j : Nat) (v' : Int) (s : List UInt8), j + m1 = 4 ∧ s.length = j ∧ s1 = rpS 4 v' s j ∧ putL m1 v' s = putL 4 v []) 4 (rpS 4 v [] 0) ?_ ⟨0, v, [], by omega, rfl, rfl, rfl⟩ ?_ ?_
    · exact weak2 hw rfl ⟨.im _, .im _, .str _, .im _, trivial⟩ (.nil _) (fun id hid => by cases hid) rfl (fun id hid => by cases hid)
    · rintro m1 s1 ⟨j, v', s, _, _, rfl, _⟩
      exact ⟨⟨Nat.le_refl 39, fun x hx => by cases hx⟩, rfl, Nat.le_refl 0, rfl⟩
    · rintro m1 s1 ⟨j, v', s, hj, hs, rfl, hp⟩
      have hwj : IntKind.i64.wrap ((j : Int) + 1) = ((j + 1 : Nat) : Int) := by rw [wrap_i64 (by omega) (by omega)]; rfl
      conv => whnf
      refine br_intro (fun hlt => ?_) (fun hge => ?_)
      · have hlt' : decide ((j : Int) < ((4 : Nat) : Int)) = true := hlt
        rw [decide_eq_true_eq] at hlt'
        obtain ⟨m2, rfl⟩ : ∃ m2, m1 = m2 + 1 := ⟨m1 - 1, by omega⟩
        conv => whnf
        refine ⟨by decide, ?_⟩
        conv => whnf
        refine ⟨rfl, .inr rfl, [UInt8.ofNat (IntKind.u8.wrap (v'.tmod 256)).toNat], ?_, ?_⟩
        · show [[V.int .u8 (IntKind.u8.wrap (v'.tmod 256))]] = [[V.int .u8 _]]
          rw [u8w]
        conv => whnf
        refine ⟨?_, ?_⟩
        · show ((1 + s.length : Nat) : Int) ≤ 9223372036854775807
          omega
        conv => whnf
        refine ⟨by decide, ?_⟩
        conv => whnf
        intro hw2
        refine ⟨m2, rpS 4 (IntKind.u64.wrap (v'.tdiv 256)) (UInt8.ofNat (IntKind.u8.wrap (v'.tmod 256)).toNat :: s) (j + 1), by omega, ?_, j + 1, _, _, by omega, by simp [hs], rfl, hp⟩
        exact weak2 hw2 rfl ⟨.im _, .im _, .str _, .int hwj, trivial⟩ (.nil _) (fun id hid => by cases hid) rfl (fun id hid => by cases hid)
      · have hge' : decide ((j : Int) < ((4 : Nat) : Int)) = false := hge
        rw [decide_eq_false_iff_not] at hge'
        obtain rfl : m1 = 0 := by omega
        have hv : v' = (putL 4 v []).1 := congrArg Prod.fst hp
        have hs' : s = (putL 4 v []).2 := congrArg Prod.snd hp
        unfold rput
        rw [← hv, ← hs']
        conv => whnf
        refine br_intro (fun h2 => ?_) (fun h2 => ?_)
        · have h2' : decide (0 < v') = true := h2
          rw [h2']
          conv => whnf
          exact ⟨free_tup2 (.str _) (.im _), rfl⟩
        · have h2' : decide (0 < v') = false := h2
          rw [h2']
          conv => whnf
          exact ⟨free_tup2 (.str _) (.im _), rfl⟩
  · conv => whnf
    intro hw
    refine wpc_loop2 (fun m1 s1 => ∃ (j : Nat) (v' : Int) (s : List UInt8), j + m1 = 8 ∧ s.length = j ∧ s1 = rpS 8 v' s j ∧ putL m1 v' s = putL 8 v []) 8 (rpS 8 v [] 0) ?_ ⟨0, v, [], by omega, rfl, rfl, rfl⟩ ?_ ?_
    · exact weak2 hw rfl ⟨.im _, .im _, .str _, .im _, trivial⟩ (.nil _) (fun id hid => by cases hid) rfl (fun id hid => by cases hid)
    · rintro m1 s1 ⟨j, v', s, _, _, rfl, _⟩
      exact ⟨⟨Nat.le_refl 39, fun x hx => by cases hx⟩, rfl, Nat.le_refl 0, rfl⟩
    · rintro m1 s1 ⟨j, v', s, hj, hs, rfl, hp⟩
      have hwj : IntKind.i64.wrap ((j : Int) + 1) = ((j + 1 : Nat) : Int) := by rw [wrap_i64 (by omega) (by omega)]; rfl
      conv => whnf
      refine br_intro (fun hlt => ?_) (fun hge => ?_)
      · have hlt' : decide ((j : Int) < ((8 : Nat) : Int)) = true := hlt
        rw [decide_eq_true_eq] at hlt'
        obtain ⟨m2, rfl⟩ : ∃ m2, m1 = m2 + 1 := ⟨m1 - 1, by omega⟩
        conv => whnf
        refine ⟨by decide, ?_⟩
        conv => whnf
        refine ⟨rfl, .inr rfl, [UInt8.ofNat (IntKind.u8.wrap (v'.tmod 256)).toNat], ?_, ?_⟩
        · show [[V.int .u8 (IntKind.u8.wrap (v'.tmod 256))]] = [[V.int .u8 _]]
          rw [u8w]
        conv => whnf
        refine ⟨?_, ?_⟩
        · show ((1 + s.length : Nat) : Int) ≤ 9223372036854775807
          omega
        conv => whnf
        refine ⟨by decide, ?_⟩
        conv => whnf
        intro hw2
        refine ⟨m2, rpS 8 (IntKind.u64.wrap (v'.tdiv 256)) (UInt8.ofNat (IntKind.u8.wrap (v'.tmod 256)).toNat :: s) (j + 1), by omega, ?_, j + 1, _, _, by omega, by simp [hs], rfl, hp⟩
        exact weak2 hw2 rfl ⟨.im _, .im _, .str _, .int hwj, trivial⟩ (.nil _) (fun id hid => by cases hid) rfl (fun id hid => by cases hid)
      · have hge' : decide ((j : Int) < ((8 : Nat) : Int)) = false := hge
        rw [decide_eq_false_iff_not] at hge'
        obtain rfl : m1 = 0 := by omega
        have hv : v' = (putL 8 v []).1 := congrArg Prod.fst hp
        have hs' : s = (putL 8 v []).2 := congrArg Prod.snd hp
        unfold rput
        rw [← hv, ← hs']
        conv => whnf
        refine br_intro (fun h2 => ?_) (fun h2 => ?_)
        · have h2' : decide (0 < v') = true := h2
          rw [h2']
          conv => whnf
          exact ⟨free_tup2 (.str _) (.im _), rfl⟩
        · have h2' : decide (0 < v') = false := h2
          rw [h2']
          conv => whnf
          exact ⟨free_tup2 (.str _) (.im _), rfl⟩
end Go.Abs.Sig
