/- The walks of some functions: what they compute. -/
import Derived.Test.YtfmankbemjcfeaaDoorT1
import Derived.Lib.Bytealg
import Derived.Lib.IndexLaws
import Derived.WalkKit
import Derived.Lib.Walk
import Derived.Test.YtfmankbemjcfeaaDoorRows
import Derived.LaidMore
import Derived.Stop.Joined
import Derived.Lay

/-! SR5 -/
namespace Go.Abs.Sig
open Go.RowKit Go.Abs
set_option linter.unusedSimpArgs false
set_option linter.unusedVariables false
set_option maxRecDepth 8000
attribute [local irreducible] StCall StYield WPc Weak IterOf Lp2 szL

theorem ttake_len0 (n : Nat) (s : List UInt8) : (ttake n s).1.length ≤ s.length := by
  unfold ttake
  split
  · exact Nat.zero_le _
  · exact Nat.le_trans (skipF_len _ _).1 (ntake_len s n).1
theorem ttake_left (n : Nat) (s : List UInt8) : (ttake n s).2.2 ≠ 0 → (ttake n s).2.1 = [] := by
  unfold ttake
  split
  · intro _; rfl
  · unfold skipF
    split <;> simp
theorem lookup_memN {k n : Nat} : ∀ {l : List (Nat × Nat)}, l.lookup k = some n → (k, n) ∈ l
  | [], h => by simp at h
  | (a, m) :: l, h => by
    rw [List.lookup_cons] at h
    by_cases hk : k = a
    · subst hk
      simp at h
      subst h
      simp
    · have : (k == a) = false := by simpa using hk
      rw [this] at h
      exact List.mem_cons_of_mem _ (lookup_memN h)
theorem ttake4_with (dep : Int) (one : List UInt8 → List UInt8 × Int) (t : List UInt8) : withF dep one t = if (ttake 4 t).2.2 ≠ 0 then ([], (ttake 4 t).2.2) else if dep > 32 then ([], 5) else ((ttake 4 t).2.1, itemsF one (ttake 4 t).1.length (ttake 4 t).1) := by
  unfold withF ttake
  by_cases h : (ntake t 4).2.2 ≠ 0
  · rw [if_pos h, if_pos h]
    simp only
    rw [if_pos h]
  · rw [if_neg h, if_neg h]

theorem szL_le {k n : Nat} (h : szL.lookup k = some n) : n ≤ 8 := by
  have h := lookup_memN h
  unfold szL at h
  simp only [List.mem_cons, Prod.mk.injEq, List.not_mem_nil, or_false] at h
  omega

theorem rvalue_core (G : Nat → Option (List V)) (r : Nat) (dep dep1 : Int) (hdep : IntKind.i64.wrap (dep + 1) = dep1) (hdp : dep ≤ 32) (hd1 : dep1 = dep + 1) (one1 one2 : List UInt8 → List UInt8 × Int) (s : List UInt8) (hs : s.length ≤ maxStr)
    (hrow : dep < 32 → ∀ (t : List UInt8), t.length ≤ maxStr → ∀ (b : Bool) H, Call2 Go.Proofs.Tryd.prog G 93 [.str t, .int .i64 dep1, .bool b] H fun x H' => H' = H ∧ ∃ d, x = .tup [.int .i64 d, .int .i64 (itemsF (if b then one2 else one1) t.length t)]) (H : Heap) :
    Call2 Go.Proofs.Tryd.prog G 105 [.str s, .int .i64 dep] H fun x H' => H' = H ∧ ∃ d, x = .tup [.str (valB (withF dep1 one1) (withF dep1 one2) s).1, .int .i64 d, .int .i64 (valB (withF dep1 one1) (withF dep1 one2) s).2] := by
  refine Call2.free (fun x hx => by
    simp only [List.mem_cons, List.not_mem_nil, or_false] at hx
    rcases hx with rfl | rfl
    · exact .str _
    · exact .im _) ?_ H
  refine stCall2 Go.Proofs.Tryd.func105 rfl (by decide) ?_
  cases s with
  | nil =>
    conv => whnf
    exact ⟨sie_free, 0, rfl⟩
  | cons c t =>
    have hl' : t.length ≤ maxStr := by simp only [List.length_cons] at hs; omega
    have hml : t.length ≤ 1152921504606846976 := hl'
    have hdr : List.drop (1 : Int).toNat (List.take (((c :: t).length : Nat) : Int).toNat (c :: t)) = t := by rw [Int.toNat_natCast, List.take_length]; rfl
    have hsz := rsize_ct G c
    cases hlk : szL.lookup c.toNat with
    | some n =>
      rw [show rsize c = (n : Int) by unfold rsize; rw [hlk]] at hsz
      have hres : valB (withF dep1 one1) (withF dep1 one2) (c :: t) = (skipF t n).2 := by unfold valB; simp only [hlk]
      have hn : n ≤ 8 := szL_le hlk
      have hwn : IntKind.i64.wrap (1 + (n : Int)) = ((1 + n : Nat) : Int) := by rw [wrap_i64 (by omega) (by omega)]; omega
      rw [hres]
      unfold skipF
      conv => whnf
      refine Call2.mono (hsz _) fun r0 H0 h => ?_
      obtain ⟨h1, h2⟩ := h
      rw [h1, h2]
      clear h1 h2 r0 H0
      conv => whnf
      rw [hwn]
      by_cases hlt : t.length < n
      · refine br_t (decide_eq_true (by simp only [List.length_cons]; omega)) ?_
        conv => whnf
        rw [if_pos hlt]
        exact ⟨sie_free, 0, rfl⟩
      · refine br_f (decide_eq_false (by simp only [List.length_cons]; omega)) ?_
        rw [if_neg hlt]
        conv => whnf
        rw [hwn]
        refine ⟨⟨by omega, by simp only [List.length_cons]; omega, by omega⟩, ?_⟩
        have h2 : List.drop (((1 + n : Nat) : Int)).toNat (List.take (((c :: t).length : Nat) : Int).toNat (c :: t)) = t.drop n := by
          rw [Int.toNat_natCast, Int.toNat_natCast, List.take_length, Nat.add_comm]; rfl
        rw [h2]
        conv => whnf
        exact ⟨sie_free, dep, rfl⟩
    | none =>
      have hx : (if c = 83 ∨ c = 120 then (ttake 4 t).2 else if c = 65 then withF dep1 one1 t else if c = 70 then withF dep1 one2 t else ([], 3)) = valB (withF dep1 one1) (withF dep1 one2) (c :: t) := by unfold valB; simp only [hlk]
      rw [← hx]
      clear hx
      rw [show rsize c = -1 by unfold rsize; rw [hlk]] at hsz
      have hin := rinside_ct G t hl'
      conv => whnf
      refine Call2.mono (hsz _) fun r0 H0 h => ?_
      obtain ⟨h1, h2⟩ := h
      rw [h1, h2]
      clear h1 h2 r0 H0
      conv => whnf
      by_cases h83 : c.toNat = 83
      · have hc : c = 83 := (u8_ne (by decide)).1 h83
        rw [if_pos (.inl hc)]
        simp only [show decide ((c.toNat : Int) ≠ 83) = false from decide_eq_false (by omega)]
        conv => whnf
        refine ⟨⟨by omega, by simp only [List.length_cons]; omega, by omega⟩, ?_⟩
        rw [hdr]
        have hal := ttake_len0 4 t
        have hlf := ttake_left 4 t
        generalize ttake 4 t = z at hin hal hlf ⊢
        obtain ⟨a, left, e⟩ := z
        unfold ssV at hin
        simp only at hal hlf ⊢
        conv => whnf
        refine Call2.mono (hin _) fun r0 H0 h => ?_
        obtain ⟨h1, h2⟩ := h
        rw [h1, h2]
        clear h1 h2 r0 H0
        conv => whnf
        by_cases he : e ≠ 0
        · refine br_t (decide_eq_true he) ?_
          conv => whnf
          exact ⟨sie_free, 0, by rw [hlf he]; rfl⟩
        refine br_f (decide_eq_false he) ?_
        have he0 : e = 0 := by simpa using he
        conv => whnf
        simp only [show decide ((c.toNat : Int) = 83) = true from decide_eq_true (by omega)]
        conv => whnf
        exact ⟨sie_free, dep, by rw [he0]; rfl⟩
      simp only [show decide ((c.toNat : Int) ≠ 83) = true from decide_eq_true (by omega)]
      conv => whnf
      by_cases h120 : c.toNat = 120
      · have hc : c = 120 := (u8_ne (by decide)).1 h120
        rw [if_pos (.inr hc)]
        simp only [show decide ((c.toNat : Int) ≠ 120) = false from decide_eq_false (by omega)]
        conv => whnf
        refine ⟨⟨by omega, by simp only [List.length_cons]; omega, by omega⟩, ?_⟩
        rw [hdr]
        have hal := ttake_len0 4 t
        have hlf := ttake_left 4 t
        generalize ttake 4 t = z at hin hal hlf ⊢
        obtain ⟨a, left, e⟩ := z
        unfold ssV at hin
        simp only at hal hlf ⊢
        conv => whnf
        refine Call2.mono (hin _) fun r0 H0 h => ?_
        obtain ⟨h1, h2⟩ := h
        rw [h1, h2]
        clear h1 h2 r0 H0
        conv => whnf
        by_cases he : e ≠ 0
        · refine br_t (decide_eq_true he) ?_
          conv => whnf
          exact ⟨sie_free, 0, by rw [hlf he]; rfl⟩
        refine br_f (decide_eq_false he) ?_
        have he0 : e = 0 := by simpa using he
        conv => whnf
        simp only [show decide ((c.toNat : Int) = 83) = false from decide_eq_false (by omega)]
        conv => whnf
        simp only [show decide ((c.toNat : Int) = 120) = true from decide_eq_true (by omega)]
        conv => whnf
        exact ⟨sie_free, dep, by rw [he0]; rfl⟩
      simp only [show decide ((c.toNat : Int) ≠ 120) = true from decide_eq_true (by omega)]
      conv => whnf
      by_cases h65 : c.toNat = 65
      · have hc : c = 65 := (u8_ne (by decide)).1 h65
        rw [if_neg (by rw [hc]; decide), if_pos hc, ttake4_with]
        simp only [show decide ((c.toNat : Int) ≠ 65) = false from decide_eq_false (by omega)]
        conv => whnf
        refine ⟨⟨by omega, by simp only [List.length_cons]; omega, by omega⟩, ?_⟩
        rw [hdr]
        have hal := ttake_len0 4 t
        have hlf := ttake_left 4 t
        generalize ttake 4 t = z at hin hal hlf ⊢
        obtain ⟨a, left, e⟩ := z
        unfold ssV at hin
        simp only at hal hlf ⊢
        conv => whnf
        refine Call2.mono (hin _) fun r0 H0 h => ?_
        obtain ⟨h1, h2⟩ := h
        rw [h1, h2]
        clear h1 h2 r0 H0
        conv => whnf
        by_cases he : e ≠ 0
        · refine br_t (decide_eq_true he) ?_
          rw [if_pos he]
          conv => whnf
          exact ⟨sie_free, 0, rfl⟩
        refine br_f (decide_eq_false he) ?_
        have he0 : e = 0 := by simpa using he
        conv => whnf
        simp only [show decide ((c.toNat : Int) = 83) = false from decide_eq_false (by omega)]
        conv => whnf
        simp only [show decide ((c.toNat : Int) = 120) = false from decide_eq_false (by omega)]
        conv => whnf
        rw [if_neg he]
        by_cases hd : 32 ≤ dep
        · refine br_t (decide_eq_true hd) ?_
          conv => whnf
          rw [if_pos (by omega)]
          exact ⟨sie_free, 0, rfl⟩
        · refine br_f (decide_eq_false hd) ?_
          rw [if_neg (by omega)]
          conv => whnf
          rw [hdep]
          simp only [show decide ((c.toNat : Int) = 70) = false from decide_eq_false (by omega)]
          have hr := hrow (by omega) a (Nat.le_trans hal hl') false []
          simp only [Bool.false_eq_true, if_false] at hr
          refine Call2.mono hr fun r0 H0 h => ?_
          obtain ⟨h1, d2, h2⟩ := h
          rw [h1, h2]
          clear h1 h2 r0 H0
          conv => whnf
          exact ⟨sie_free, d2, rfl⟩
      simp only [show decide ((c.toNat : Int) ≠ 65) = true from decide_eq_true (by omega)]
      conv => whnf
      by_cases h70 : c.toNat = 70
      · have hc : c = 70 := (u8_ne (by decide)).1 h70
        rw [if_neg (by rw [hc]; decide), if_neg (by rw [hc]; decide), if_pos hc, ttake4_with]
        simp only [show decide ((c.toNat : Int) ≠ 70) = false from decide_eq_false (by omega)]
        conv => whnf
        refine ⟨⟨by omega, by simp only [List.length_cons]; omega, by omega⟩, ?_⟩
        rw [hdr]
        have hal := ttake_len0 4 t
        have hlf := ttake_left 4 t
        generalize ttake 4 t = z at hin hal hlf ⊢
        obtain ⟨a, left, e⟩ := z
        unfold ssV at hin
        simp only at hal hlf ⊢
        conv => whnf
        refine Call2.mono (hin _) fun r0 H0 h => ?_
        obtain ⟨h1, h2⟩ := h
        rw [h1, h2]
        clear h1 h2 r0 H0
        conv => whnf
        by_cases he : e ≠ 0
        · refine br_t (decide_eq_true he) ?_
          rw [if_pos he]
          conv => whnf
          exact ⟨sie_free, 0, rfl⟩
        refine br_f (decide_eq_false he) ?_
        have he0 : e = 0 := by simpa using he
        conv => whnf
        simp only [show decide ((c.toNat : Int) = 83) = false from decide_eq_false (by omega)]
        conv => whnf
        simp only [show decide ((c.toNat : Int) = 120) = false from decide_eq_false (by omega)]
        conv => whnf
        rw [if_neg he]
        by_cases hd : 32 ≤ dep
        · refine br_t (decide_eq_true hd) ?_
          conv => whnf
          rw [if_pos (by omega)]
          exact ⟨sie_free, 0, rfl⟩
        · refine br_f (decide_eq_false hd) ?_
          rw [if_neg (by omega)]
          conv => whnf
          rw [hdep]
          simp only [show decide ((c.toNat : Int) = 70) = true from decide_eq_true (by omega)]
          have hr := hrow (by omega) a (Nat.le_trans hal hl') true []
          simp only [if_true] at hr
          refine Call2.mono hr fun r0 H0 h => ?_
          obtain ⟨h1, d2, h2⟩ := h
          rw [h1, h2]
          clear h1 h2 r0 H0
          conv => whnf
          exact ⟨sie_free, d2, rfl⟩
      simp only [show decide ((c.toNat : Int) ≠ 70) = true from decide_eq_true (by omega)]
      conv => whnf
      rw [if_neg (by rintro (rfl | rfl); exact h83 rfl; exact h120 rfl), if_neg (by rintro rfl; exact h65 rfl), if_neg (by rintro rfl; exact h70 rfl)]
      exact ⟨sie_free, 0, rfl⟩

end Go.Abs.Sig

/-! SR6 -/
namespace Go.Abs.Sig
open Go.RowKit Go.Abs
set_option linter.unusedSimpArgs false
set_option linter.unusedVariables false
set_option maxRecDepth 8000
attribute [local irreducible] StCall StYield WPc Weak IterOf Lp2 szL

theorem rvalR_ct (G : Nat → Option (List V)) : ∀ r, r ≤ 31 → RVal G r := by
  intro r
  induction r with
  | zero =>
    intro _ s hs H
    exact rvalue_core G 0 _ 33 rfl (by omega) (by omega) (fun _ => ([], 0)) (fun _ => ([], 0)) s hs (fun h => by omega) H
  | succ r ih =>
    intro hr s hs H
    have ih := ih (by omega)
    refine rvalue_core G r _ (32 - (r : Int)) (by rw [wrap_i64 (by omega) (by omega)]; omega) (by omega) (by omega) (valF r) (fldF (valF r)) s hs (fun _ t ht b H => ?_) H
    cases b
    · exact row_ct G r ih false (valF r) rfl t ht H
    · exact row_ct G r ih true (fldF (valF r)) rfl t ht H

theorem rtable_ct (G : Nat → Option (List V)) (s : List UInt8) (hs : s.length ≤ maxStr) (H : Heap) : Call2 Go.Proofs.Tryd.prog G 80 [.str s] H fun x H' => H' = H ∧ ∃ d, x = .tup [.str (tabF s).1, .int .i64 d, .int .i64 (tabF s).2] := by
  refine Call2.free (fun x hx => by
    simp only [List.mem_cons, List.not_mem_nil, or_false] at hx
    subst hx
    exact .str _) ?_ H
  refine stCall2 Go.Proofs.Tryd.func80 rfl (by decide) ?_
  have hin := rinside_ct G s hs
  have hal := ttake_len0 4 s
  unfold tabF
  rw [ttake4_with]
  generalize ttake 4 s = z at hin hal ⊢
  obtain ⟨a, left, e⟩ := z
  unfold ssV at hin
  simp only at hal ⊢
  have hr := row_ct G 31 (rvalR_ct G 31 (by omega)) true (fldF (valF 31)) rfl a (Nat.le_trans hal hs) []
  conv => whnf
  refine Call2.mono (hin _) fun r0 H0 h => ?_
  obtain ⟨h1, h2⟩ := h
  rw [h1, h2]
  clear h1 h2 r0 H0
  conv => whnf
  by_cases he : e ≠ 0
  · refine br_t (decide_eq_true he) ?_
    rw [if_pos he]
    conv => whnf
    exact ⟨sie_free, 0, rfl⟩
  · refine br_f (decide_eq_false he) ?_
    rw [if_neg he, if_neg (by omega)]
    conv => whnf
    refine Call2.mono hr fun r0 H0 h => ?_
    obtain ⟨h1, d2, h2⟩ := h
    rw [h1, h2]
    clear h1 h2 r0 H0
    conv => whnf
    exact ⟨sie_free, d2, rfl⟩

theorem tabF_len (s : List UInt8) : (tabF s).2 = 0 → (tabF s).1.length ≤ s.length := withF_len _ _ s

def deepE (s : List UInt8) : Int := if (tabF s).2 ≠ 0 then (tabF s).2 else if (tabF s).1 ≠ [] then 3 else 0
theorem rdeep_ct (G : Nat → Option (List V)) (s : List UInt8) (hs : s.length ≤ maxStr) (H : Heap) : Call2 Go.Proofs.Tryd.prog G 60 [.str s] H fun x H' => H' = H ∧ ∃ d, x = .tup [.int .i64 d, .int .i64 (deepE s)] := by
  refine Call2.free (fun x hx => by
    simp only [List.mem_cons, List.not_mem_nil, or_false] at hx
    subst hx
    exact .str _) ?_ H
  refine stCall2 Go.Proofs.Tryd.func60 rfl (by decide) ?_
  have ht := rtable_ct G s hs []
  unfold deepE
  generalize tabF s = x at ht
  obtain ⟨rest, e⟩ := x
  simp only
  conv => whnf
  refine Call2.mono ht fun r0 H0 h => ?_
  obtain ⟨h1, d2, h2⟩ := h
  rw [h1, h2]
  clear h1 h2 r0 H0
  conv => whnf
  by_cases he : e ≠ 0
  · refine br_t (decide_eq_true he) ?_
    rw [if_pos he]
    conv => whnf
    exact ⟨free_tup2 (.im _) (.im _), 0, rfl⟩
  · refine br_f (decide_eq_false he) ?_
    rw [if_neg he]
    conv => whnf
    by_cases hr : rest ≠ []
    · have hp : 0 < rest.length := List.length_pos_iff.2 hr
      refine br_t (decide_eq_true (by simp only; omega)) ?_
      rw [if_pos hr]
      conv => whnf
      exact ⟨free_tup2 (.im _) (.im _), 0, rfl⟩
    · have hr0 : rest = [] := by simpa using hr
      subst hr0
      rw [if_neg hr]
      conv => whnf
      exact ⟨free_tup2 (.im _) (.im _), d2, rfl⟩

/-- Both ask the same of a table. -/
theorem tbBad_deep (s : List UInt8) : tbBad s = decide (deepE s ≠ 0) := by
  unfold tbBad deepE tblF takenF
  by_cases he : (tabF s).2 ≠ 0
  · rw [if_pos he, if_pos he]
    simp [he, bsel]
  · rw [if_neg he, if_neg he]
    have he0 : (tabF s).2 = 0 := by simpa using he
    by_cases hr : (tabF s).1 ≠ []
    · rw [if_pos hr]
      simp [hr, bsel]
    · rw [if_neg hr]
      have hr0 : (tabF s).1 = [] := by simpa using hr
      have hne : s ≠ [] := by
        rintro rfl
        exact absurd he0 (by decide)
      simp [hr0, bsel, hne]

end Go.Abs.Sig

/-! SM8 -/
namespace Go.Abs.Sig
open Go.RowKit Go.Abs
set_option linter.unusedSimpArgs false
set_option linter.unusedVariables false
set_option maxRecDepth 8000
attribute [local irreducible] StCall StYield WPc Weak IterOf Lp2

def Rng (v : Val') : Prop := 0 ≤ v.1 ∧ v.1 < 18446744073709551616

theorem wrap_u64 {n : Int} (h0 : 0 ≤ n) (h1 : n < 18446744073709551616) : IntKind.u64.wrap n = n := by
  simp only [IntKind.wrap, IntKind.bits, IntKind.signed]
  simp
  omega

theorem putL_fst : ∀ (k : Nat) (v : Int) (s : List UInt8), 0 ≤ v → v < 18446744073709551616 → (putL k v s).1 = v / (256 ^ k : Int)
  | 0, v, s, _, _ => by simp [putL]
  | k + 1, v, s, h0, h1 => by
    have ht : v.tdiv 256 = v / 256 := Int.tdiv_eq_ediv_of_nonneg h0
    have hw : IntKind.u64.wrap (v.tdiv 256) = v / 256 := by rw [ht]; exact wrap_u64 (by omega) (by omega)
    unfold putL
    rw [hw, putL_fst k _ _ (by omega) (by omega), Int.ediv_ediv_of_nonneg (by omega), Int.pow_succ, Int.mul_comm]

theorem rput_bad {n : Nat} {v : Val'} (hv : Rng v) : decide ((rput n v.1).2 ≠ 0) = decide (0 < v.1 / (256 ^ n : Int)) := by
  unfold rput
  rw [putL_fst n v.1 [] hv.1 hv.2]
  split
  · rename_i h
    rw [h]; rfl
  · rename_i h
    simp only [Bool.not_eq_true] at h
    rw [h]; rfl
theorem fdiv_pos {a b : Int} (ha : 0 ≤ a) (hb : 0 < b) : decide (a.fdiv b ≠ 0) = decide (0 < a / b) := by
  rw [Int.fdiv_eq_ediv_of_nonneg _ (by omega), decide_eq_decide]
  have := Int.ediv_nonneg ha (Int.le_of_lt hb)
  omega

theorem len_pos (l : List UInt8) : decide ((0 : Int) < (l.length : Int)) = decide (l ≠ []) := by
  cases l with
  | nil => rfl
  | cons a l => simp
theorem wr1 (v : Val') : wr 1 v = if decide (v.1.fdiv (2 ^ 8) ≠ 0) then 4 else if decide (v.2 ≠ []) then 1 else 0 := by
  unfold wr
  rw [show (8 * (1 : Int)).toNat = 8 from rfl]
  rfl
theorem wr2 (v : Val') : wr 2 v = if decide (v.1.fdiv (2 ^ 16) ≠ 0) then 4 else if decide (v.2 ≠ []) then 1 else 0 := by
  unfold wr
  rw [show (8 * (2 : Int)).toNat = 16 from rfl]
  rfl
theorem wr4 (v : Val') : wr 4 v = if decide (v.1.fdiv (2 ^ 32) ≠ 0) then 4 else if decide (v.2 ≠ []) then 1 else 0 := by
  unfold wr
  rw [show (8 * (4 : Int)).toNat = 32 from rfl]
  rfl
theorem wr8 (v : Val') : wr 8 v = if decide (v.2 ≠ []) then 1 else 0 := rfl
theorem bad1 {v : Val'} (hv : Rng v) : decide (v.1.fdiv (2 ^ 8) ≠ 0) = decide ((rput 1 v.1).2 ≠ 0) := by rw [rput_bad hv, fdiv_pos hv.1 (by decide)]; rfl
theorem bad2 {v : Val'} (hv : Rng v) : decide (v.1.fdiv (2 ^ 16) ≠ 0) = decide ((rput 2 v.1).2 ≠ 0) := by rw [rput_bad hv, fdiv_pos hv.1 (by decide)]; rfl
theorem bad4 {v : Val'} (hv : Rng v) : decide (v.1.fdiv (2 ^ 32) ≠ 0) = decide ((rput 4 v.1).2 ≠ 0) := by rw [rput_bad hv, fdiv_pos hv.1 (by decide)]; rfl
theorem bad8 {v : Val'} (hv : Rng v) : decide ((rput 8 v.1).2 ≠ 0) = false := by
  rw [rput_bad hv, decide_eq_false_iff_not]
  have := hv.1
  have := hv.2
  omega
theorem rval_ct (G : Nat → Option (List V)) (tb : Val' → Int) (c : UInt8) (hc : c = 111 ∨ c = 115 ∨ c = 108 ∨ c = 113 ∨ c = 98 ∨ c = 83 ∨ c = 76) (v : Val') (hv : Rng v) (H : Heap) :
    Call2 Go.Proofs.Tryd.prog G 41 [.int .u8 (c.toNat : Int), .agg (vcells v)] H fun r H' => H' = H ∧ r = .int .i64 (rl tb c v) := by
  refine Call2.free (fun x hx => by
    simp only [List.mem_cons, List.not_mem_nil, or_false] at hx
    rcases hx with rfl | rfl
    · exact .im _
    · exact vcells_free v) ?_ H
  refine stCall2 Go.Proofs.Tryd.func41 rfl (by decide) ?_
  rcases hc with rfl | rfl | rfl | rfl | rfl | rfl | rfl
  · have hr : rl tb 111 v = wr 1 v := rfl
    rw [hr, wr1, bad1 hv]
    conv => whnf
    refine Call2.mono (rwidth_ct G 111 _) fun r0 H0 h => ?_
    obtain ⟨h1, h2⟩ := h
    rw [h1, h2]
    clear h1 h2 r0 H0
    conv => whnf
    refine Call2.mono (rput_ct G 1 (by simp) v.1 _) fun r0 H0 h => ?_
    obtain ⟨h1, h2⟩ := h
    rw [h1, h2]
    clear h1 h2 r0 H0
    conv => whnf
    refine br_intro (fun h => ?_) (fun h => ?_)
    · have h' : decide ((rput 1 v.1).2 ≠ 0) = true := h
      rw [h']
      conv => whnf
      exact ⟨.im _, rfl⟩
    · have h' : decide ((rput 1 v.1).2 ≠ 0) = false := h
      rw [h']
      rw [← len_pos]
      conv => whnf
      refine br_intro (fun h2 => ?_) (fun h2 => ?_)
      · have h2' : decide ((0 : Int) < (v.2.length : Int)) = true := h2
        rw [h2']
        conv => whnf
        exact ⟨.im _, rfl⟩
      · have h2' : decide ((0 : Int) < (v.2.length : Int)) = false := h2
        rw [h2']
        conv => whnf
        exact ⟨.im _, rfl⟩
  · have hr : rl tb 115 v = wr 2 v := rfl
    rw [hr, wr2, bad2 hv]
    conv => whnf
    refine Call2.mono (rwidth_ct G 115 _) fun r0 H0 h => ?_
    obtain ⟨h1, h2⟩ := h
    rw [h1, h2]
    clear h1 h2 r0 H0
    conv => whnf
    refine Call2.mono (rput_ct G 2 (by simp) v.1 _) fun r0 H0 h => ?_
    obtain ⟨h1, h2⟩ := h
    rw [h1, h2]
    clear h1 h2 r0 H0
    conv => whnf
    refine br_intro (fun h => ?_) (fun h => ?_)
    · have h' : decide ((rput 2 v.1).2 ≠ 0) = true := h
      rw [h']
      conv => whnf
      exact ⟨.im _, rfl⟩
    · have h' : decide ((rput 2 v.1).2 ≠ 0) = false := h
      rw [h']
      rw [← len_pos]
      conv => whnf
      refine br_intro (fun h2 => ?_) (fun h2 => ?_)
      · have h2' : decide ((0 : Int) < (v.2.length : Int)) = true := h2
        rw [h2']
        conv => whnf
        exact ⟨.im _, rfl⟩
      · have h2' : decide ((0 : Int) < (v.2.length : Int)) = false := h2
        rw [h2']
        conv => whnf
        exact ⟨.im _, rfl⟩
  · have hr : rl tb 108 v = wr 4 v := rfl
    rw [hr, wr4, bad4 hv]
    conv => whnf
    refine Call2.mono (rwidth_ct G 108 _) fun r0 H0 h => ?_
    obtain ⟨h1, h2⟩ := h
    rw [h1, h2]
    clear h1 h2 r0 H0
    conv => whnf
    refine Call2.mono (rput_ct G 4 (by simp) v.1 _) fun r0 H0 h => ?_
    obtain ⟨h1, h2⟩ := h
    rw [h1, h2]
    clear h1 h2 r0 H0
    conv => whnf
    refine br_intro (fun h => ?_) (fun h => ?_)
    · have h' : decide ((rput 4 v.1).2 ≠ 0) = true := h
      rw [h']
      conv => whnf
      exact ⟨.im _, rfl⟩
    · have h' : decide ((rput 4 v.1).2 ≠ 0) = false := h
      rw [h']
      rw [← len_pos]
      conv => whnf
      refine br_intro (fun h2 => ?_) (fun h2 => ?_)
      · have h2' : decide ((0 : Int) < (v.2.length : Int)) = true := h2
        rw [h2']
        conv => whnf
        exact ⟨.im _, rfl⟩
      · have h2' : decide ((0 : Int) < (v.2.length : Int)) = false := h2
        rw [h2']
        conv => whnf
        exact ⟨.im _, rfl⟩
  · have hr : rl tb 113 v = wr 8 v := rfl
    rw [hr, wr8]
    conv => whnf
    refine Call2.mono (rwidth_ct G 113 _) fun r0 H0 h => ?_
    obtain ⟨h1, h2⟩ := h
    rw [h1, h2]
    clear h1 h2 r0 H0
    conv => whnf
    refine Call2.mono (rput_ct G 8 (by simp) v.1 _) fun r0 H0 h => ?_
    obtain ⟨h1, h2⟩ := h
    rw [h1, h2]
    clear h1 h2 r0 H0
    conv => whnf
    refine br_f (bad8 hv) ?_
    rw [← len_pos]
    conv => whnf
    refine br_intro (fun h2 => ?_) (fun h2 => ?_)
    · have h2' : decide ((0 : Int) < (v.2.length : Int)) = true := h2
      rw [h2']
      conv => whnf
      exact ⟨.im _, rfl⟩
    · have h2' : decide ((0 : Int) < (v.2.length : Int)) = false := h2
      rw [h2']
      conv => whnf
      exact ⟨.im _, rfl⟩
  · have hr : rl tb 98 v = if decide (1 < v.1) then 4 else if decide (v.2 ≠ []) then 1 else 0 := by
      show wr 0 v = _
      unfold wr
      cases decide (1 < v.1) <;> rfl
    rw [hr]
    conv => whnf
    refine Call2.mono (rwidth_ct G 98 _) fun r0 H0 h => ?_
    obtain ⟨h1, h2⟩ := h
    rw [h1, h2]
    clear h1 h2 r0 H0
    conv => whnf
    refine br_intro (fun h => ?_) (fun h => ?_)
    · have h' : decide (1 < v.1) = true := h
      rw [h']
      conv => whnf
      exact ⟨.im _, rfl⟩
    · have h' : decide (1 < v.1) = false := h
      rw [h']
      rw [← len_pos]
      conv => whnf
      refine br_intro (fun h2 => ?_) (fun h2 => ?_)
      · have h2' : decide ((0 : Int) < (v.2.length : Int)) = true := h2
        rw [h2']
        conv => whnf
        exact ⟨.im _, rfl⟩
      · have h2' : decide ((0 : Int) < (v.2.length : Int)) = false := h2
        rw [h2']
        conv => whnf
        exact ⟨.im _, rfl⟩
  · have hr : rl tb 83 v = wt 255 v := rfl
    rw [hr]
    unfold wt
    conv => whnf
    refine Call2.mono (rwidth_ct G 83 _) fun r0 H0 h => ?_
    obtain ⟨h1, h2⟩ := h
    rw [h1, h2]
    clear h1 h2 r0 H0
    conv => whnf
    refine br_intro (fun h => ?_) (fun h => ?_)
    · have h' : decide ((v.2.length : Int) > _) = true := h
      rw [h']
      conv => whnf
      exact ⟨.im _, rfl⟩
    · have h' : decide ((v.2.length : Int) > _) = false := h
      rw [h']
      conv => whnf
      refine br_intro (fun h2 => ?_) (fun h2 => ?_)
      · have h2' : decide (v.1 ≠ 0) = true := h2
        rw [h2']
        conv => whnf
        exact ⟨.im _, rfl⟩
      · have h2' : decide (v.1 ≠ 0) = false := h2
        rw [h2']
        conv => whnf
        exact ⟨.im _, rfl⟩
  · have hr : rl tb 76 v = wt 131072 v := rfl
    rw [hr]
    unfold wt
    conv => whnf
    refine Call2.mono (rwidth_ct G 76 _) fun r0 H0 h => ?_
    obtain ⟨h1, h2⟩ := h
    rw [h1, h2]
    clear h1 h2 r0 H0
    conv => whnf
    refine br_intro (fun h => ?_) (fun h => ?_)
    · have h' : decide ((v.2.length : Int) > _) = true := h
      rw [h']
      conv => whnf
      exact ⟨.im _, rfl⟩
    · have h' : decide ((v.2.length : Int) > _) = false := h
      rw [h']
      conv => whnf
      refine br_intro (fun h2 => ?_) (fun h2 => ?_)
      · have h2' : decide (v.1 ≠ 0) = true := h2
        rw [h2']
        conv => whnf
        exact ⟨.im _, rfl⟩
      · have h2' : decide (v.1 ≠ 0) = false := h2
        rw [h2']
        conv => whnf
        exact ⟨.im _, rfl⟩

end Go.Abs.Sig

/-! SR7 -/
namespace Go.Abs.Sig
open Go.RowKit Go.Abs
set_option linter.unusedSimpArgs false
set_option linter.unusedVariables false
set_option maxRecDepth 8000
attribute [local irreducible] StCall StYield WPc Weak IterOf Lp2 szL

theorem rvalT_ct (G : Nat → Option (List V)) (v : Val') (hs : v.2.length ≤ maxStr) (H : Heap) :
    Call2 Go.Proofs.Tryd.prog G 41 [.int .u8 (((84 : UInt8).toNat : Nat) : Int), .agg (vcells v)] H fun r H' => H' = H ∧ r = .int .i64 (tbv v) := by
  refine Call2.free (fun x hx => by
    simp only [List.mem_cons, List.not_mem_nil, or_false] at hx
    rcases hx with rfl | rfl
    · exact .im _
    · exact vcells_free v) ?_ H
  refine stCall2 Go.Proofs.Tryd.func41 rfl (by decide) ?_
  have hd := rdeep_ct G v.2 hs
  have hb := tbBad_deep v.2
  unfold tbv
  rw [hb]
  generalize deepE v.2 = e at hd
  conv => whnf
  refine Call2.mono (rwidth_ct G 84 _) fun r0 H0 h => ?_
  obtain ⟨h1, h2⟩ := h
  rw [h1, h2]
  clear h1 h2 r0 H0
  conv => whnf
  by_cases h0 : v.1 ≠ 0
  · refine br_t (decide_eq_true h0) ?_
    rw [if_pos h0]
    conv => whnf
    exact ⟨.im _, rfl⟩
  · refine br_f (decide_eq_false h0) ?_
    rw [if_neg h0]
    conv => whnf
    refine Call2.mono (hd _) fun r0 H0 h => ?_
    obtain ⟨h1, d2, h2⟩ := h
    rw [h1, h2]
    clear h1 h2 r0 H0
    conv => whnf
    by_cases he : e ≠ 0
    · refine br_t (decide_eq_true he) ?_
      rw [if_pos (decide_eq_true he)]
      conv => whnf
      exact ⟨.im _, rfl⟩
    · refine br_f (decide_eq_false he) ?_
      rw [if_neg (by simpa using he)]
      conv => whnf
      exact ⟨.im _, rfl⟩

end Go.Abs.Sig

/-! SM9 -/
namespace Go.Abs.Sig
open Go.RowKit Go.Abs
set_option linter.unusedSimpArgs false
set_option linter.unusedVariables false
set_option maxRecDepth 8000
attribute [local irreducible] StCall StYield WPc Weak IterOf Lp2

def rrS (s : List UInt8) (m : Met) (j : Nat) : S2 := headS 43 ([.bad, .ptr 0 0, .bad, .str s, .bad, .int .i64 (j : Int)] ++ List.replicate 37 .bad) [some (.cells 37 (mcells m))] [] none

theorem rright_ct (G : Nat → Option (List V)) (tb : Val' → Int) (m : Met) (hT : ¬ 84 ∈ (rowAt m.1 m.2.1).2.2.1) (hrng : ∀ v ∈ m.2.2, Rng v) (H : Heap) : Call2 Go.Proofs.Tryd.prog G 25 [.agg (mcells m)] H fun r H' => H' = H ∧ r = .int .i64 (mright tb m) := by
  refine Call2.free (fun x hx => by
    simp only [List.mem_cons, List.not_mem_nil, or_false] at hx
    subst hx
    exact mcells_free m) ?_ H
  obtain ⟨c, i, l⟩ := m
  refine stCall2 Go.Proofs.Tryd.func25 rfl (by decide) ?_
  unfold mright
  conv => whnf
  refine Call2.mono (rof_ct G c i _) fun r0 H0 h => ?_
  obtain ⟨h1, h2⟩ := h
  rw [h1, h2]
  clear h1 h2 r0 H0
  conv => whnf
  rw [rof_eq]
  have hsh := tab_short c i
  generalize hs : (rowAt c i).2.2.1 = s at hT hsh
  cases hi : isAt c i
  · conv => whnf
    exact ⟨.im _, rfl⟩
  · conv => whnf
    refine br_intro (fun h1 => ?_) (fun h1 => ?_)
    · have h1' : decide ((s.length : Int) ≠ ((vals l).length : Int)) = true := h1
      have h1'' : decide ((s.length : Int) ≠ (l.length : Int)) = true := by rw [← h1']; simp [vals]
      conv => whnf
      refine ⟨.im _, ?_⟩
      show V.int .i64 7 = V.int .i64 (if !true || decide ((s.length : Int) ≠ (l.length : Int)) then 7 else vright tb s l)
      rw [h1'']
      rfl
    · have h1' : decide ((s.length : Int) ≠ ((vals l).length : Int)) = false := h1
      have hlen : s.length = l.length := by simp [vals] at h1'; omega
      have hres : (if !true || decide ((s.length : Int) ≠ (l.length : Int)) then (7 : Int) else vright tb s l) = vright tb s l := by rw [hlen]; simp
      conv => whnf
      intro hw
      refine wpc_loop2 (fun n1 s1 => ∃ j : Nat, j ≤ l.length ∧ n1 = l.length - j ∧ s1 = rrS s (c, i, l) j ∧ vright tb (s.drop j) (l.drop j) = vright tb s l) l.length (rrS s (c, i, l) 0) ?_ ⟨0, by omega, rfl, rfl, rfl⟩ ?_ ?_
      · exact weak2 hw rfl ⟨.ptr 0 0 (of_decide_eq_true rfl), .str _, .im _, trivial⟩ (.cons (.free (mcells_free' (c, i, l))) (.nil _)) (fun id hid => by cases hid) rfl (fun id hid => by cases hid)
      · rintro n1 s1 ⟨j, _, _, rfl, _⟩
        exact ⟨⟨Nat.le_refl 43, fun x hx => by cases hx⟩, rfl, Nat.le_refl _, rfl⟩
      · rintro n1 s1 ⟨j, hj, rfl, rfl, hinv⟩
        conv => whnf
        refine br_intro (fun hlt => ?_) (fun hge => ?_)
        · have hlt' : decide ((j : Int) < (s.length : Int)) = true := hlt
          rw [decide_eq_true_eq] at hlt'
          have hjl : j < l.length := by omega
          obtain ⟨v, hv⟩ : ∃ v, l[j]? = some v := ⟨l[j], List.getElem?_eq_getElem hjl⟩
          obtain ⟨b, hb⟩ : ∃ b, s[j]? = some b := ⟨_, List.getElem?_eq_getElem (by rw [hlen]; exact hjl)⟩
          have hget := vals_get hv
          have hgetb : s[Int.toNat (j : Int)]? = some b := hb
          have hd0 : decide (0 ≤ (j : Int)) = true := decide_eq_true (by omega)
          have hg : (true && true && decide ((0 : Int) ≤ (j : Int))) = true := by simp
          have hwj : IntKind.i64.wrap ((j : Int) + 1) = ((j + 1 : Nat) : Int) := by rw [wrap_i64 (by omega) (by omega)]; rfl
          have hds : s.drop j = b :: s.drop (j + 1) := by rw [List.drop_eq_getElem_cons (by rw [hlen]; exact hjl), (List.getElem?_eq_some_iff.1 hb).2]
          have hdl : l.drop j = v :: l.drop (j + 1) := by rw [List.drop_eq_getElem_cons hjl, (List.getElem?_eq_some_iff.1 hv).2]
          have hvr : vright tb (s.drop j) (l.drop j) = if rl tb b v ≠ 0 then rl tb b v else vright tb (s.drop (j + 1)) (l.drop (j + 1)) := by rw [hds, hdl]; rfl
          have hbm : b ∈ s := List.mem_of_getElem? hb
          have hlet : b = 111 ∨ b = 115 ∨ b = 108 ∨ b = 113 ∨ b = 98 ∨ b = 83 ∨ b = 76 := by
            have := letters_at (c := c) (i := i) (b := b) (by rw [hs]; exact hbm)
            rcases this with h | h | h | h | h | h | h | h
            · exact .inl h
            · exact .inr (.inl h)
            · exact .inr (.inr (.inl h))
            · exact .inr (.inr (.inr (.inl h)))
            · exact .inr (.inr (.inr (.inr (.inl h))))
            · exact .inr (.inr (.inr (.inr (.inr (.inl h)))))
            · exact .inr (.inr (.inr (.inr (.inr (.inr h)))))
            · exact absurd (h ▸ hbm) hT
          have hvR : Rng v := hrng v (List.mem_of_getElem? hv)
          have hne0 : decide (rl tb b v ≠ 0) = true → rl tb b v = vright tb s l := fun h => by
            rw [← hinv, hvr, if_pos (by simpa using h)]
          have heq0 : decide (rl tb b v ≠ 0) = false → vright tb (s.drop (j + 1)) (l.drop (j + 1)) = vright tb s l := fun h => by
            have h0 : rl tb b v = 0 := by simpa using h
            rw [← hinv, hvr, if_neg (by simp [h0])]
          conv => whnf
          intro hw2
          refine wpc_draw2 8 (by rfl) (by decide) (by decide) hw2 ?_
          conv => whnf
          refine grd_intro hd0 (optK_intro hgetb ?_)
          conv => whnf
          refine grd_intro hg (optK_intro hget ?_)
          conv => whnf
          refine Call2.mono (rval_ct G tb b hlet v hvR _) fun r1 H1 h => ?_
          obtain ⟨e1, e2⟩ := h
          rw [e1, e2]
          clear e1 e2
          conv => whnf
          refine br_intro (fun hr => ?_) (fun hr => ?_)
          · have hr' := hne0 hr
            conv => whnf
            refine ⟨.im _, ?_⟩
            show V.int .i64 (rl tb b v) = V.int .i64 (if !true || decide ((s.length : Int) ≠ (l.length : Int)) then 7 else vright tb s l)
            rw [hres, hr']
          · have hnext := heq0 hr
            conv => whnf
            intro hw3
            refine ⟨l.length - (j + 1), rrS s (c, i, l) (j + 1), by omega, ?_, j + 1, by omega, rfl, rfl, hnext⟩
            exact weak2 hw3 rfl ⟨.ptr 0 0 (of_decide_eq_true rfl), .str _, .int hwj, trivial⟩ (.cons (.free (mcells_free' (c, i, l))) (.nil _)) (fun id hid => by cases hid) rfl (fun id hid => by cases hid)
        · have hge' : decide ((j : Int) < (s.length : Int)) = false := hge
          rw [decide_eq_false_iff_not] at hge'
          obtain rfl : j = l.length := by omega
          have h0 : vright tb s l = 0 := by
            rw [← hinv, List.drop_length, ← hlen, List.drop_length]; rfl
          conv => whnf
          refine ⟨.im _, ?_⟩
          show V.int .i64 0 = V.int .i64 (if !true || decide ((s.length : Int) ≠ (l.length : Int)) then 7 else vright tb s l)
          rw [hres, h0]

end Go.Abs.Sig

/-! SR8 -/
namespace Go.Abs.Sig
open Go.RowKit Go.Abs
set_option linter.unusedSimpArgs false
set_option linter.unusedVariables false
set_option maxRecDepth 8000
attribute [local irreducible] StCall StYield WPc Weak IterOf Lp2

theorem rvalAll_ct (G : Nat → Option (List V)) (b : UInt8) (hb : b = 111 ∨ b = 115 ∨ b = 108 ∨ b = 113 ∨ b = 98 ∨ b = 83 ∨ b = 76 ∨ b = 84) (v : Val') (hv : Rng v) (hs : v.2.length ≤ maxStr) (H : Heap) :
    Call2 Go.Proofs.Tryd.prog G 41 [.int .u8 (b.toNat : Int), .agg (vcells v)] H fun r H' => H' = H ∧ r = .int .i64 (rl tbv b v) := by
  by_cases h84 : b = 84
  · subst h84
    exact rvalT_ct G v hs H
  · exact rval_ct G tbv b (by
      rcases hb with h | h | h | h | h | h | h | h
      · exact .inl h
      · exact .inr (.inl h)
      · exact .inr (.inr (.inl h))
      · exact .inr (.inr (.inr (.inl h)))
      · exact .inr (.inr (.inr (.inr (.inl h))))
      · exact .inr (.inr (.inr (.inr (.inr (.inl h)))))
      · exact .inr (.inr (.inr (.inr (.inr (.inr h)))))
      · exact absurd h h84) v hv H

theorem rrightT_ct (G : Nat → Option (List V)) (m : Met) (hrng : ∀ v ∈ m.2.2, Rng v) (hstr : ∀ v ∈ m.2.2, v.2.length ≤ maxStr) (H : Heap) : Call2 Go.Proofs.Tryd.prog G 25 [.agg (mcells m)] H fun r H' => H' = H ∧ r = .int .i64 (mright tbv m) := by
  refine Call2.free (fun x hx => by
    simp only [List.mem_cons, List.not_mem_nil, or_false] at hx
    subst hx
    exact mcells_free m) ?_ H
  obtain ⟨c, i, l⟩ := m
  refine stCall2 Go.Proofs.Tryd.func25 rfl (by decide) ?_
  unfold mright
  conv => whnf
  refine Call2.mono (rof_ct G c i _) fun r0 H0 h => ?_
  obtain ⟨h1, h2⟩ := h
  rw [h1, h2]
  clear h1 h2 r0 H0
  conv => whnf
  rw [rof_eq]
  have hsh := tab_short c i
  generalize hs : (rowAt c i).2.2.1 = s at hsh
  cases hi : isAt c i
  · conv => whnf
    exact ⟨.im _, rfl⟩
  · conv => whnf
    refine br_intro (fun h1 => ?_) (fun h1 => ?_)
    · have h1' : decide ((s.length : Int) ≠ ((vals l).length : Int)) = true := h1
      have h1'' : decide ((s.length : Int) ≠ (l.length : Int)) = true := by rw [← h1']; simp [vals]
      conv => whnf
      refine ⟨.im _, ?_⟩
      show V.int .i64 7 = V.int .i64 (if !true || decide ((s.length : Int) ≠ (l.length : Int)) then 7 else vright tbv s l)
      rw [h1'']
      rfl
    · have h1' : decide ((s.length : Int) ≠ ((vals l).length : Int)) = false := h1
      have hlen : s.length = l.length := by simp [vals] at h1'; omega
      have hres : (if !true || decide ((s.length : Int) ≠ (l.length : Int)) then (7 : Int) else vright tbv s l) = vright tbv s l := by rw [hlen]; simp
      conv => whnf
      intro hw
      refine wpc_loop2 (fun n1 s1 => ∃ j : Nat, j ≤ l.length ∧ n1 = l.length - j ∧ s1 = rrS s (c, i, l) j ∧ vright tbv (s.drop j) (l.drop j) = vright tbv s l) l.length (rrS s (c, i, l) 0) ?_ ⟨0, by omega, rfl, rfl, rfl⟩ ?_ ?_
      · exact weak2 hw rfl ⟨.ptr 0 0 (of_decide_eq_true rfl), .str _, .im _, trivial⟩ (.cons (.free (mcells_free' (c, i, l))) (.nil _)) (fun id hid => by cases hid) rfl (fun id hid => by cases hid)
      · rintro n1 s1 ⟨j, _, _, rfl, _⟩
        exact ⟨⟨Nat.le_refl 43, fun x hx => by cases hx⟩, rfl, Nat.le_refl _, rfl⟩
      · rintro n1 s1 ⟨j, hj, rfl, rfl, hinv⟩
        conv => whnf
        refine br_intro (fun hlt => ?_) (fun hge => ?_)
        · have hlt' : decide ((j : Int) < (s.length : Int)) = true := hlt
          rw [decide_eq_true_eq] at hlt'
          have hjl : j < l.length := by omega
          obtain ⟨v, hv⟩ : ∃ v, l[j]? = some v := ⟨l[j], List.getElem?_eq_getElem hjl⟩
          obtain ⟨b, hb⟩ : ∃ b, s[j]? = some b := ⟨_, List.getElem?_eq_getElem (by rw [hlen]; exact hjl)⟩
          have hget := vals_get hv
          have hgetb : s[Int.toNat (j : Int)]? = some b := hb
          have hd0 : decide (0 ≤ (j : Int)) = true := decide_eq_true (by omega)
          have hg : (true && true && decide ((0 : Int) ≤ (j : Int))) = true := by simp
          have hwj : IntKind.i64.wrap ((j : Int) + 1) = ((j + 1 : Nat) : Int) := by rw [wrap_i64 (by omega) (by omega)]; rfl
          have hds : s.drop j = b :: s.drop (j + 1) := by rw [List.drop_eq_getElem_cons (by rw [hlen]; exact hjl), (List.getElem?_eq_some_iff.1 hb).2]
          have hdl : l.drop j = v :: l.drop (j + 1) := by rw [List.drop_eq_getElem_cons hjl, (List.getElem?_eq_some_iff.1 hv).2]
          have hvr : vright tbv (s.drop j) (l.drop j) = if rl tbv b v ≠ 0 then rl tbv b v else vright tbv (s.drop (j + 1)) (l.drop (j + 1)) := by rw [hds, hdl]; rfl
          have hbm : b ∈ s := List.mem_of_getElem? hb
          have hlet := letters_at (c := c) (i := i) (b := b) (by rw [hs]; exact hbm)
          have hvR : Rng v := hrng v (List.mem_of_getElem? hv)
          have hne0 : decide (rl tbv b v ≠ 0) = true → rl tbv b v = vright tbv s l := fun h => by
            rw [← hinv, hvr, if_pos (by simpa using h)]
          have heq0 : decide (rl tbv b v ≠ 0) = false → vright tbv (s.drop (j + 1)) (l.drop (j + 1)) = vright tbv s l := fun h => by
            have h0 : rl tbv b v = 0 := by simpa using h
            rw [← hinv, hvr, if_neg (by simp [h0])]
          conv => whnf
          intro hw2
          refine wpc_draw2 8 (by rfl) (by decide) (by decide) hw2 ?_
          conv => whnf
          refine grd_intro hd0 (optK_intro hgetb ?_)
          conv => whnf
          refine grd_intro hg (optK_intro hget ?_)
          conv => whnf
          refine Call2.mono (rvalAll_ct G b hlet v hvR (hstr v (List.mem_of_getElem? hv)) _) fun r1 H1 h => ?_
          obtain ⟨e1, e2⟩ := h
          rw [e1, e2]
          clear e1 e2
          conv => whnf
          refine br_intro (fun hr => ?_) (fun hr => ?_)
          · have hr' := hne0 hr
            conv => whnf
            refine ⟨.im _, ?_⟩
            show V.int .i64 (rl tbv b v) = V.int .i64 (if !true || decide ((s.length : Int) ≠ (l.length : Int)) then 7 else vright tbv s l)
            rw [hres, hr']
          · have hnext := heq0 hr
            conv => whnf
            intro hw3
            refine ⟨l.length - (j + 1), rrS s (c, i, l) (j + 1), by omega, ?_, j + 1, by omega, rfl, rfl, hnext⟩
            exact weak2 hw3 rfl ⟨.ptr 0 0 (of_decide_eq_true rfl), .str _, .int hwj, trivial⟩ (.cons (.free (mcells_free' (c, i, l))) (.nil _)) (fun id hid => by cases hid) rfl (fun id hid => by cases hid)
        · have hge' : decide ((j : Int) < (s.length : Int)) = false := hge
          rw [decide_eq_false_iff_not] at hge'
          obtain rfl : j = l.length := by omega
          have h0 : vright tbv s l = 0 := by
            rw [← hinv, List.drop_length, ← hlen, List.drop_length]; rfl
          conv => whnf
          refine ⟨.im _, ?_⟩
          show V.int .i64 0 = V.int .i64 (if !true || decide ((s.length : Int) ≠ (l.length : Int)) then 7 else vright tbv s l)
          rw [hres, h0]

end Go.Abs.Sig

/-! SV1 -/
namespace Go.Abs.Sig
open Go.RowKit Go.Abs
set_option linter.unusedSimpArgs false
set_option linter.unusedVariables false
set_option maxRecDepth 8000

/-! ### strings.Cut, strings.Contains at one byte, strings.CutPrefix -/
set_option maxHeartbeats 1000000 in
set_option maxRecDepth 100000 in
theorem ibyte_calls (s : ByteArray) (c : Int) (w : World) :
    Calls Go.Proofs.Tryd.prog 88 #[.string s, .int .u8 c] w fun e w' => e = .returned (.int .i64 (Lib.indexByte s.data.toList c.toNat.toUInt8)) ∧ w' = w := by
  go_enter Go.Proofs.Tryd.func88, Go.Proofs.Tryd.ntmps88
  go_wp2
  rw [run_callFunc_extern Go.Proofs.Tryd.func101 (by kernel_rfl) (by kernel_rfl) (by kernel_rfl) (e := Extern.BytealgIndexByte.indexByte) (by kernel_rfl), Lib.run_indexByteString]
  simp only [Result.andThen]
  rw [Oper.upon_value]
  go_wp2
  go_ret
  exact ⟨rfl, rfl⟩

attribute [local irreducible] StCall StYield WPc Weak IterOf Lp2

/-- The place of a byte. -/
def ixB (s : List UInt8) (c : UInt8) : Int := Lib.indexByte s c

theorem ibyte_ct (G : Nat → Option (List V)) (s : List UInt8) (c : UInt8) (H : Heap) : Call2 Go.Proofs.Tryd.prog G 88 [.str s, .int .u8 (c.toNat : Int)] H fun r H' => H' = H ∧ r = .int .i64 (ixB s c) :=
  Call2.ofCalls (us := [.string ⟨⟨s⟩⟩, .int .u8 (c.toNat : Int)]) (v := .int .i64 (ixB s c)) ⟨_, Go.Proofs.Tryd.func88, rfl, by decide⟩ (fun w e us h => isVals2 (.str s) (.im _) us h) (fun w e => ⟨.im _, trivial⟩)
    (fun w => (ibyte_calls ⟨⟨s⟩⟩ (c.toNat : Int) w).mono fun e w' h => by
      refine ⟨h.1.trans ?_, h.2⟩
      simp [ixB]) H

theorem index1_ct (G : Nat → Option (List V)) (s : List UInt8) (c : UInt8) (H : Heap) : Call2 Go.Proofs.Tryd.prog G 79 [.str s, .str [c]] H fun r H' => H' = H ∧ r = .int .i64 (ixB s c) := by
  refine Call2.free (fun x hx => by
    simp only [List.mem_cons, List.not_mem_nil, or_false] at hx
    rcases hx with rfl | rfl
    · exact .str _
    · exact .str _) ?_ H
  refine stCall2 Go.Proofs.Tryd.func79 rfl (by decide) ?_
  conv => whnf
  by_cases he : [c] = s
  · subst he
    have h0 : ixB [c] c = 0 := by simp [ixB, Lib.indexByte]
    rw [decide_eq_true rfl, h0]
    conv => whnf
    exact ⟨.im _, rfl⟩
  rw [decide_eq_false he]
  conv => whnf
  refine Call2.mono (ibyte_ct G s c _) fun r0 H0 h => ?_
  obtain ⟨h1, h2⟩ := h
  rw [h1, h2]
  clear h1 h2 r0 H0
  conv => whnf
  exact ⟨.im _, rfl⟩

theorem contains1_ct (G : Nat → Option (List V)) (s : List UInt8) (c : UInt8) (H : Heap) : Call2 Go.Proofs.Tryd.prog G 39 [.str s, .str [c]] H fun r H' => H' = H ∧ r = .bool (decide (0 ≤ ixB s c)) := by
  refine Call2.free (fun x hx => by
    simp only [List.mem_cons, List.not_mem_nil, or_false] at hx
    rcases hx with rfl | rfl
    · exact .str _
    · exact .str _) ?_ H
  refine stCall2 Go.Proofs.Tryd.func39 rfl (by decide) ?_
  conv => whnf
  refine stCall2 Go.Proofs.Tryd.func56 rfl (by decide) ?_
  conv => whnf
  refine Call2.mono (index1_ct G s c _) fun r0 H0 h => ?_
  obtain ⟨h1, h2⟩ := h
  rw [h1, h2]
  clear h1 h2 r0 H0
  conv => whnf
  exact ⟨.im _, rfl⟩

/-- Cut at the first byte c. -/
def cutB (s : List UInt8) (c : UInt8) : List UInt8 × List UInt8 × Bool := if 0 ≤ ixB s c then (s.take (ixB s c).toNat, s.drop ((ixB s c).toNat + 1), true) else (s, [], false)

theorem ixB_lt (s : List UInt8) (c : UInt8) (h : 0 ≤ ixB s c) : (ixB s c).toNat < s.length := by
  obtain ⟨o, ho⟩ : ∃ o : Nat, ixB s c = o := ⟨(ixB s c).toNat, by omega⟩
  have := (Lib.indexByte_some (l := s) (c := c) (o := o) ho).1
  rw [ho]
  exact (List.getElem?_eq_some_iff.1 this).1

theorem cut_ct (G : Nat → Option (List V)) (s : List UInt8) (hs : s.length ≤ maxStr) (c : UInt8) (H : Heap) : Call2 Go.Proofs.Tryd.prog G 62 [.str s, .str [c]] H fun r H' => H' = H ∧ r = .tup [.str (cutB s c).1, .str (cutB s c).2.1, .bool (cutB s c).2.2] := by
  refine Call2.free (fun x hx => by
    simp only [List.mem_cons, List.not_mem_nil, or_false] at hx
    rcases hx with rfl | rfl
    · exact .str _
    · exact .str _) ?_ H
  have hl := ixB_lt s c
  have hc : cutB s c = if 0 ≤ ixB s c then (s.take (ixB s c).toNat, s.drop ((ixB s c).toNat + 1), true) else (s, [], false) := rfl
  simp only [maxStr] at hs
  refine stCall2 Go.Proofs.Tryd.func62 rfl (by decide) ?_
  conv => whnf
  refine stCall2 Go.Proofs.Tryd.func82 rfl (by decide) ?_
  conv => whnf
  refine Call2.mono (index1_ct G s c _) fun r0 H0 h => ?_
  obtain ⟨h1, h2⟩ := h
  rw [h1, h2]
  clear h1 h2 r0 H0
  conv => whnf
  generalize ixB s c = i at *
  by_cases h0 : 0 ≤ i
  · rw [if_pos h0] at hc
    rw [hc]
    have := hl h0
    have hw : (IntKind.i64.wrap (i + ((([c] : List UInt8).length : Nat) : Int))) = ((i.toNat + 1 : Nat) : Int) := by rw [wrap_i64 (by simp; omega) (by simp; omega)]; simp; omega
    refine br_t (decide_eq_true h0) ?_
    conv => whnf
    intro hw2
    refine wpc_draw2 12 (by rfl) (by decide) (by kernel_rfl) hw2 ?_
    conv => whnf
    refine ⟨⟨by omega, by omega, by omega⟩, ?_⟩
    conv => whnf
    rw [hw]
    refine ⟨⟨by omega, by omega, by omega⟩, ?_⟩
    conv => whnf
    refine ⟨free_tup3 (.str _) (.str _) (.im _), ?_⟩
    simp only [Int.toNat_natCast, Int.toNat_zero, List.drop_zero, List.take_length]
    rfl
  · rw [if_neg h0] at hc
    rw [hc]
    refine br_f (decide_eq_false h0) ?_
    conv => whnf
    exact ⟨free_tup3 (.str _) (.str _) (.im _), rfl⟩

theorem prefix1_ct (G : Nat → Option (List V)) (s : List UInt8) (H : Heap) : Call2 Go.Proofs.Tryd.prog G 61 [.str s, .str [0]] H fun r H' => H' = H ∧ r = .tup [.str (if s.take 1 = [0] then s.drop 1 else s), .bool (decide (s.take 1 = [0]))] := by
  refine Call2.free (fun x hx => by
    simp only [List.mem_cons, List.not_mem_nil, or_false] at hx
    rcases hx with rfl | rfl
    · exact .str _
    · exact .str _) ?_ H
  refine stCall2 Go.Proofs.Tryd.func61 rfl (by decide) ?_
  conv => whnf
  refine stCall2 Go.Proofs.Tryd.func81 rfl (by decide) ?_
  conv => whnf
  refine stCall2 Go.Proofs.Tryd.func94 rfl (by decide) ?_
  conv => whnf
  cases s with
  | nil =>
    conv => whnf
    exact ⟨free_tup2 (.str _) (.im _), rfl⟩
  | cons b s =>
    refine br_t (decide_eq_true (by simp; omega)) ?_
    conv => whnf
    refine ⟨⟨by first | (simp; done) | (simp; omega), by first | (simp; done) | (simp; omega), by first | (simp; done) | (simp; omega)⟩, ?_⟩
    conv => whnf
    by_cases hb : b = 0
    · subst hb
      conv => whnf
      refine ⟨⟨by first | (simp; done) | (simp; omega), by first | (simp; done) | (simp; omega), by first | (simp; done) | (simp; omega)⟩, ?_⟩
      conv => whnf
      exact ⟨free_tup2 (.str _) (.im _), by simp⟩
    · refine br_t (by simp [hb, bsel]) ?_
      conv => whnf
      exact ⟨free_tup2 (.str _) (.im _), by simp [hb]⟩

/-- The user and the word of PLAIN's answer. -/
def pairsF (s : List UInt8) : List UInt8 × List UInt8 × Bool :=
  if s.take 1 = [0] ∧ (cutB (s.drop 1) 0).2.2 = true ∧ ixB (cutB (s.drop 1) 0).2.1 0 < 0 then ((cutB (s.drop 1) 0).1, (cutB (s.drop 1) 0).2.1, true) else ([], [], false)

theorem pairs_ct (G : Nat → Option (List V)) (s : List UInt8) (hs : s.length ≤ maxStr) (H : Heap) : Call2 Go.Proofs.Tryd.prog G 44 [.str s] H fun r H' => H' = H ∧ r = .tup [.str (pairsF s).1, .str (pairsF s).2.1, .bool (pairsF s).2.2] := by
  refine Call2.free (fun x hx => by
    simp only [List.mem_cons, List.not_mem_nil, or_false] at hx
    subst hx
    exact .str _) ?_ H
  refine stCall2 Go.Proofs.Tryd.func44 rfl (by decide) ?_
  conv => whnf
  refine Call2.mono (prefix1_ct G s _) fun r0 H0 h => ?_
  obtain ⟨h1, h2⟩ := h
  rw [h1, h2]
  clear h1 h2 r0 H0
  conv => whnf
  unfold pairsF
  by_cases h0 : s.take 1 = [0]
  · rw [if_pos h0, decide_eq_true h0]
    have hc := cut_ct G (s.drop 1) (by simp; omega) 0
    generalize cutB (s.drop 1) 0 = x at hc
    obtain ⟨u, wd, is⟩ := x
    conv => whnf
    refine Call2.mono (hc _) fun r0 H0 h => ?_
    obtain ⟨h1, h2⟩ := h
    rw [h1, h2]
    clear h1 h2 r0 H0
    conv => whnf
    cases is
    · conv => whnf
      exact ⟨free_tup3 (.str _) (.str _) (.im _), by simp⟩
    · conv => whnf
      refine Call2.mono (contains1_ct G wd 0 _) fun r0 H0 h => ?_
      obtain ⟨h1, h2⟩ := h
      rw [h1, h2]
      clear h1 h2 r0 H0
      conv => whnf
      by_cases h1 : 0 ≤ ixB wd 0
      · rw [decide_eq_true h1, if_neg (by simp; omega)]
        conv => whnf
        exact ⟨free_tup3 (.str _) (.str _) (.im _), rfl⟩
      · rw [decide_eq_false h1, if_pos ⟨h0, rfl, by simp; omega⟩]
        conv => whnf
        exact ⟨free_tup3 (.str _) (.str _) (.im _), rfl⟩
  · rw [if_neg h0, decide_eq_false h0, if_neg (fun h => h0 h.1)]
    have hc := cut_ct G s hs 0
    generalize cutB s 0 = x at hc
    obtain ⟨u, wd, is⟩ := x
    conv => whnf
    refine Call2.mono (hc _) fun r0 H0 h => ?_
    obtain ⟨h1, h2⟩ := h
    rw [h1, h2]
    clear h1 h2 r0 H0
    conv => whnf
    exact ⟨free_tup3 (.str _) (.str _) (.im _), rfl⟩
end Go.Abs.Sig

/-! SV2 -/
namespace Go.Abs.Sig
open Go.RowKit Go.Abs
set_option linter.unusedSimpArgs false
set_option linter.unusedVariables false
set_option maxRecDepth 8000
attribute [local irreducible] StCall StYield WPc Weak IterOf Lp2

/-! ### a connection's state -/
structure Hand where
  st : Int
  ch : Int
  fr : Int
  bt : Int
  us : List UInt8
  wd : List UInt8
  ho : List UInt8
  deriving DecidableEq

def hcells (h : Hand) : List V := [.int .i64 h.st, .int .i64 h.ch, .int .i64 h.fr, .int .i64 h.bt, .str h.us, .str h.wd, .str h.ho]
theorem hcells_free' (h : Hand) : ∀ v ∈ hcells h, v.Free := fun v hv => by
  simp only [hcells, List.mem_cons, List.not_mem_nil, or_false] at hv
  rcases hv with rfl | rfl | rfl | rfl | rfl | rfl | rfl
  · exact .im _
  · exact .im _
  · exact .im _
  · exact .im _
  · exact .str _
  · exact .str _
  · exact .str _
theorem hcells_free (h : Hand) : (V.agg (hcells h)).Free := .agg _ (hcells_free' h)
def mrows (l : List Met) : List (List V) := l.map mcells

/-! ### results that say less -/
theorem vw_hand {n : Nat} {a b c d : Int} {u w o : List UInt8} : VW n (.agg [.int .i64 a, .int .i64 b, .int .i64 c, .int .i64 d, .str u, .str w, .str o]) (.agg (hcells ⟨a, b, c, d, u, w, o⟩)) := .free (hcells_free ⟨a, b, c, d, u, w, o⟩)
theorem dw_args {es : Nat} {fl : Fl} {l : List Val'} (h : es = 2 ∨ l = []) : DW (.dat es (vals l) fl) (.dat 2 (vals l) .no) := by
  rcases h with rfl | rfl
  · exact dw_no _ _ _
  · exact .nil _ _ _
/-- A row of methods, cell by cell. -/
def mrow (x : Nat × Fl × Met) : List V := [.int .i64 x.2.2.1, .int .i64 x.2.2.2.1, .dat x.1 (vals x.2.2.2.2) x.2.1]
theorem vw_mets {n : Nat} {fl : Fl} (L : List (Nat × Fl × Met)) (h : ∀ x ∈ L, x.1 = 2 ∨ x.2.2.2.2 = []) : VW n (.dat 3 (L.map mrow) fl) (.dat 3 (mrows (L.map fun x => x.2.2)) .no) := by
  refine .rows 3 _ _ fl (by simp [mrows]) (fun i r r' h1 h2 => ?_) (fun i j v v' h1 h2 => ?_)
  · unfold mrows at h2
    rw [List.getElem?_map] at h1 h2
    rw [List.getElem?_map] at h2
    obtain ⟨x, hx, rfl⟩ := Option.map_eq_some_iff.1 h1
    rw [hx] at h2
    simp only [Option.map_some, Option.some.injEq] at h2
    subst h2
    rfl
  · unfold at2 mrows at *
    rw [List.getElem?_map] at h1 h2
    rw [List.getElem?_map] at h2
    cases hx : L[i]? with
    | none => rw [hx] at h1; cases h1
    | some x =>
      rw [hx] at h1 h2
      have hm := h x (List.mem_of_getElem? hx)
      match j, h1, h2 with
      | 0, h1, h2 => cases h1; cases h2; exact .refl _
      | 1, h1, h2 => cases h1; cases h2; exact .refl _
      | 2, h1, h2 => cases h1; cases h2; exact dw_args hm
      | j + 3, h1, h2 => cases h1
theorem vw_mets0 {n es : Nat} : VW n (.dat es [] .tight) (.dat 3 (mrows []) .no) := .nil _ _ _ _ (.inl rfl)
theorem vw_tup3 {n : Nat} {a b c a' b' c' : V} (h : VW n a a') (h' : VW n b b') (h'' : VW n c c') : VW n (.tup [a, b, c]) (.tup [a', b', c']) := .tup _ _ rfl fun i v v' h1 h2 => by
  match i with
  | 0 => simp at h1 h2; subst h1; subst h2; exact h
  | 1 => simp at h1 h2; subst h1; subst h2; exact h'
  | 2 => simp at h1 h2; subst h1; subst h2; exact h''
  | i + 3 => simp at h1
theorem mrows_free (l : List Met) : (V.dat 3 (mrows l) .no).Free := .dat _ _ _ (by simp)
/-- What Take answers. -/
def tkV (x : Hand × List Met × Int) : V := .tup [.agg (hcells x.1), .dat 3 (mrows x.2.1) .no, .int .i64 x.2.2]
theorem tkV_free (x : Hand × List Met × Int) : (tkV x).Free := free_tup3 (hcells_free _) (mrows_free _) (.im _)
theorem vw_tk0 {n es : Nat} {a b c d e : Int} {u w o : List UInt8} :
    VW n (.tup [.agg [.int .i64 a, .int .i64 b, .int .i64 c, .int .i64 d, .str u, .str w, .str o], .dat es [] .tight, .int .i64 e]) (tkV (⟨a, b, c, d, u, w, o⟩, [], e)) := vw_tup3 vw_hand vw_mets0 (.im _)
theorem vw_tk1 {n es : Nat} {fl fl' : Fl} {a b c d e : Int} {u w o : List UInt8} {x y : Int} {l : List Val'} (h : es = 2 ∨ l = []) :
    VW n (.tup [.agg [.int .i64 a, .int .i64 b, .int .i64 c, .int .i64 d, .str u, .str w, .str o], .dat 3 [[.int .i64 x, .int .i64 y, .dat es (vals l) fl]] fl', .int .i64 e]) (tkV (⟨a, b, c, d, u, w, o⟩, [(x, y, l)], e)) :=
  vw_tup3 vw_hand (vw_mets [(es, fl, x, y, l)] (by simpa using h)) (.im _)

/-! ### what it computes -/
def PLAIN : List UInt8 := [80, 76, 65, 73, 78]
def ok51 : Met := (10, 51, [])
def isC (m : Met) (id : Int) : Bool := decide (m.1 = 10) && decide (m.2.1 = id)
def i64 (n : Int) : Int := IntKind.i64.wrap n
def sEnds (h : Hand) (m : Met) : Hand × List Met × Int := if isC m 50 then ({ h with st := 6 }, [ok51], 0) else (h, [], 8)
def tuneM (h : Hand) : Met := (10, 30, [(u64 h.ch, []), (u64 h.fr, []), (u64 h.bt, [])])
def sStart (h : Hand) (m : Met) : Hand × List Met × Int :=
  if isC m 11 then
    if (argOf m 1).2 ≠ PLAIN then (h, [], 14)
    else if (pairsF (argOf m 2).2).2.2 then ({ h with us := (pairsF (argOf m 2).2).1, wd := (pairsF (argOf m 2).2).2.1, st := 2 }, [tuneM h], 0) else (h, [], 7)
  else sEnds h m
def sTune (h : Hand) (m : Met) : Hand × List Met × Int :=
  if isC m 31 then
    if i64 (argOf m 0).1 > h.ch ∨ i64 (argOf m 1).1 > h.fr ∨ (i64 (argOf m 1).1 ≠ 0 ∧ i64 (argOf m 1).1 < 4096) then (h, [], 14)
    else ({ h with ch := if i64 (argOf m 0).1 = 0 then h.ch else i64 (argOf m 0).1, fr := if i64 (argOf m 1).1 = 0 then h.fr else i64 (argOf m 1).1, bt := if h.bt < i64 (argOf m 2).1 then h.bt else i64 (argOf m 2).1, st := 3 }, [], 0)
  else sEnds h m
def openM : Met := (10, 41, [(0, [])])
def sOpen (h : Hand) (m : Met) : Hand × List Met × Int := if isC m 40 then ({ h with ho := (argOf m 0).2, st := 4 }, [openM], 0) else sEnds h m
def sClosing (h : Hand) (m : Met) : Hand × List Met × Int := if isC m 51 then ({ h with st := 6 }, [], 0) else if isC m 50 then (h, [ok51], 0) else (h, [], 0)
def sTake (h : Hand) (m : Met) : Hand × List Met × Int :=
  if mright tbv m ≠ 0 then (h, [], 7)
  else if h.st < 0 then (h, [], 8) else if 7 ≤ h.st then (h, [], 8) else if h.st = 0 then (h, [], 8)
  else if h.st = 1 then sStart h m else if h.st = 2 then sTune h m else if h.st = 3 then sOpen h m else if h.st = 4 then sEnds h m else if h.st = 5 then sClosing h m else (h, [], 0)

theorem sTake_bad {h : Hand} {m : Met} (hr : mright tbv m ≠ 0) : sTake h m = (h, [], 7) := if_pos hr
theorem sTake_0 {h : Hand} {m : Met} (hr : ¬ mright tbv m ≠ 0) (hs : h.st = 0) : sTake h m = (h, [], 8) := by
  unfold sTake; rw [if_neg hr, if_neg (by omega), if_neg (by omega), if_pos hs]
theorem sTake_1 {h : Hand} {m : Met} (hr : ¬ mright tbv m ≠ 0) (hs : h.st = 1) : sTake h m = sStart h m := by
  unfold sTake; rw [if_neg hr, if_neg (by omega), if_neg (by omega), if_neg (by omega), if_pos hs]
theorem sTake_2 {h : Hand} {m : Met} (hr : ¬ mright tbv m ≠ 0) (hs : h.st = 2) : sTake h m = sTune h m := by
  unfold sTake; rw [if_neg hr, if_neg (by omega), if_neg (by omega), if_neg (by omega), if_neg (by omega), if_pos hs]
theorem sTake_3 {h : Hand} {m : Met} (hr : ¬ mright tbv m ≠ 0) (hs : h.st = 3) : sTake h m = sOpen h m := by
  unfold sTake; rw [if_neg hr, if_neg (by omega), if_neg (by omega), if_neg (by omega), if_neg (by omega), if_neg (by omega), if_pos hs]
theorem sTake_4 {h : Hand} {m : Met} (hr : ¬ mright tbv m ≠ 0) (hs : h.st = 4) : sTake h m = sEnds h m := by
  unfold sTake; rw [if_neg hr, if_neg (by omega), if_neg (by omega), if_neg (by omega), if_neg (by omega), if_neg (by omega), if_neg (by omega), if_pos hs]
theorem sTake_5 {h : Hand} {m : Met} (hr : ¬ mright tbv m ≠ 0) (hs : h.st = 5) : sTake h m = sClosing h m := by
  unfold sTake; rw [if_neg hr, if_neg (by omega), if_neg (by omega), if_neg (by omega), if_neg (by omega), if_neg (by omega), if_neg (by omega), if_neg (by omega), if_pos hs]
theorem sTake_6 {h : Hand} {m : Met} (hr : ¬ mright tbv m ≠ 0) (hs : h.st = 6) : sTake h m = (h, [], 0) := by
  unfold sTake; rw [if_neg hr, if_neg (by omega), if_neg (by omega), if_neg (by omega), if_neg (by omega), if_neg (by omega), if_neg (by omega), if_neg (by omega), if_neg (by omega)]

theorem argOf_len {m : Met} (hm : ∀ v ∈ m.2.2, v.2.length ≤ maxStr) (k : Int) : (argOf m k).2.length ≤ maxStr := by
  unfold argOf
  split
  · exact Nat.zero_le _
  · cases h : m.2.2[k.toNat]? with
    | none => exact Nat.zero_le _
    | some v => exact hm v (List.mem_of_getElem? h)

/-- Is it that method of a connection? -/
theorem is_ct (G : Nat → Option (List V)) (H : Heap) (k : Nat) (hc : Hand) (m : Met) (out : V) (id : Int) (hk : H[k]? = some (some (.cells 67 (hcells hc ++ mcells m ++ [out])))) :
    Call2 Go.Proofs.Tryd.prog G 42 [.ptr k 0, .int .i64 id] H fun r H' => H' = H ∧ r = .bool (isC m id) := by
  obtain ⟨c, i, l⟩ := m
  unfold isC
  refine stCall2 Go.Proofs.Tryd.func42 rfl (by decide) ?_
  conv => whnf
  rw [hk]
  conv => whnf
  cases h1 : decide (c = 10)
  · conv => whnf
    exact ⟨rfl, rfl⟩
  · conv => whnf
    rw [hk]
    conv => whnf
    exact ⟨rfl, rfl⟩

/-- A value's number, as a closure of tune takes it. -/
theorem tuneArg_ct (G : Nat → Option (List V)) (H : Heap) (hc : Hand) (m : Met) (out : V) (i : Int) (a : Val') (ha : ∀ H, Call2 Go.Proofs.Tryd.prog G 43 [.agg (mcells m), .int .i64 i] H fun r H' => H' = H ∧ r = .agg (vcells a))
    (h5 : H[5]? = some (some (.cells 63 [.ptr 4 0]))) (h4 : H[4]? = some (some (.cells 67 (hcells hc ++ mcells m ++ [out])))) :
    Call2 Go.Proofs.Tryd.prog G 45 [.int .i64 i, .ptr 5 0] H fun r H' => H' = H ∧ r = .int .i64 (i64 a.1) := by
  obtain ⟨c, j, l⟩ := m
  refine stCall2 Go.Proofs.Tryd.func45 rfl (by decide) ?_
  conv => whnf
  rw [h5]
  conv => whnf
  rw [h4]
  conv => whnf
  refine Call2.mono (ha _) fun r0 H0 h => ?_
  obtain ⟨h1, h2⟩ := h
  rw [h1, h2]
  clear h1 h2 r0 H0
  conv => whnf
  exact ⟨rfl, rfl⟩

end Go.Abs.Sig

/-! SV3 -/
namespace Go.Abs.Sig
open Go.RowKit Go.Abs
set_option linter.unusedSimpArgs false
set_option linter.unusedVariables false
set_option maxRecDepth 8000
attribute [local irreducible] StCall StYield WPc Weak IterOf Lp2



set_option maxHeartbeats 4000000 in
theorem stake0 (G : Nat → Option (List V)) (hG : G 4 = some wV) (ch fr bt : Int) (us wd ho : List UInt8) (c i : Int) (l : List Val') (hm : ∀ v ∈ l, v.2.length ≤ maxStr) :
    Call2 Go.Proofs.Tryd.prog G 16 [.agg (hcells ⟨0, ch, fr, bt, us, wd, ho⟩), .agg (mcells (c, i, l))] [] fun r H' => r.Free ∧ r = tkV (sTake ⟨0, ch, fr, bt, us, wd, ho⟩ (c, i, l)) := by
  have hr := mrightT_ct G hG (c, i, l) hm
  obtain ⟨e, hee⟩ : ∃ e, mright tbv (c, i, l) = e := ⟨_, rfl⟩
  rw [hee] at hr
  refine Call2.weakR ?_
  refine stCall2 Go.Proofs.Tryd.func16 rfl (by decide) ?_
  conv => whnf
  refine Call2.mono (hr _) fun r0 H0 h => ?_
  obtain ⟨h1, h2⟩ := h
  rw [h1, h2]
  clear h1 h2 r0 H0
  conv => whnf
  by_cases he : e ≠ 0
  · refine br_t (decide_eq_true he) ?_
    rw [sTake_bad (by rw [hee]; exact he)]
    conv => whnf
    exact ⟨_, vw_tk0, tkV_free _, rfl⟩
  refine br_f (decide_eq_false he) ?_
  rw [← hee] at he
  rw [sTake_0 he rfl]
  conv => whnf
  refine stCall2 Go.Proofs.Tryd.func26 rfl (by decide) ?_
  conv => whnf
  exact ⟨_, vw_tk0, tkV_free _, rfl⟩

set_option maxHeartbeats 4000000 in
theorem stake1 (G : Nat → Option (List V)) (hG : G 4 = some wV) (ch fr bt : Int) (us wd ho : List UInt8) (c i : Int) (l : List Val') (hm : ∀ v ∈ l, v.2.length ≤ maxStr) :
    Call2 Go.Proofs.Tryd.prog G 16 [.agg (hcells ⟨1, ch, fr, bt, us, wd, ho⟩), .agg (mcells (c, i, l))] [] fun r H' => r.Free ∧ r = tkV (sTake ⟨1, ch, fr, bt, us, wd, ho⟩ (c, i, l)) := by
  have hr := mrightT_ct G hG (c, i, l) hm
  obtain ⟨e, hee⟩ : ∃ e, mright tbv (c, i, l) = e := ⟨_, rfl⟩
  rw [hee] at hr
  refine Call2.weakR ?_
  refine stCall2 Go.Proofs.Tryd.func16 rfl (by decide) ?_
  conv => whnf
  refine Call2.mono (hr _) fun r0 H0 h => ?_
  obtain ⟨h1, h2⟩ := h
  rw [h1, h2]
  clear h1 h2 r0 H0
  conv => whnf
  by_cases he : e ≠ 0
  · refine br_t (decide_eq_true he) ?_
    rw [sTake_bad (by rw [hee]; exact he)]
    conv => whnf
    exact ⟨_, vw_tk0, tkV_free _, rfl⟩
  refine br_f (decide_eq_false he) ?_
  rw [← hee] at he
  rw [sTake_1 he rfl]
  conv => whnf
  refine stCall2 Go.Proofs.Tryd.func27 rfl (by decide) ?_
  conv => whnf
  unfold sStart
  refine Call2.mono (is_ct G _ 4 _ (c, i, l) _ 11 rfl) fun r0 H0 h => ?_
  obtain ⟨h1, h2⟩ := h
  rw [h1, h2]
  clear h1 h2 r0 H0
  conv => whnf
  cases h11 : isC (c, i, l) 11
  · rw [if_neg (by simp)]
    conv => whnf
    refine stCall2 Go.Proofs.Tryd.func30 rfl (by decide) ?_
    conv => whnf
    refine Call2.mono (is_ct G _ 4 _ (c, i, l) _ 50 rfl) fun r0 H0 h => ?_
    obtain ⟨h1, h2⟩ := h
    rw [h1, h2]
    clear h1 h2 r0 H0
    conv => whnf
    unfold sEnds
    cases h50 : isC (c, i, l) 50
    · rw [if_neg (by simp)]
      conv => whnf
      exact ⟨_, vw_tk0, tkV_free _, rfl⟩
    · rw [if_pos rfl]
      conv => whnf
      refine stCall2 Go.Proofs.Tryd.func24 rfl (by decide) ?_
      conv => whnf
      intro hw
      refine wpc_drawG2 [8] [] [(7, 8)] (by rfl) (by kernel_rfl) (by kernel_rfl) hw ?_
      conv => whnf
      exact ⟨_, vw_tk1 (l := []) (.inr rfl), tkV_free _, rfl⟩
  · rw [if_pos rfl]
    generalize ha1 : argOf (c, i, l) 1 = a1
    have ha2 : (argOf (c, i, l) 2).2.length ≤ maxStr := argOf_len hm 2
    have hp := pairs_ct G (argOf (c, i, l) 2).2 ha2
    have harg2 := arg_ct G (c, i, l) 2
    generalize argOf (c, i, l) 2 = a2 at hp harg2
    have harg1 := arg_ct G (c, i, l) 1
    rw [ha1] at harg1
    generalize pairsF a2.2 = p at hp ⊢
    obtain ⟨u1, w1, is⟩ := p
    conv => whnf
    refine Call2.mono (harg1 _) fun r0 H0 h => ?_
    obtain ⟨h1, h2⟩ := h
    rw [h1, h2]
    clear h1 h2 r0 H0
    conv => whnf
    by_cases hP : a1.2 ≠ PLAIN
    · rw [if_pos hP]
      rw [show decide (a1.2 ≠ [80, 76, 65, 73, 78]) = true from decide_eq_true hP]
      conv => whnf
      exact ⟨_, vw_tk0, tkV_free _, rfl⟩
    · rw [if_neg hP]
      rw [show decide (a1.2 ≠ [80, 76, 65, 73, 78]) = false from decide_eq_false hP]
      conv => whnf
      refine Call2.mono (harg2 _) fun r0 H0 h => ?_
      obtain ⟨h1, h2⟩ := h
      rw [h1, h2]
      clear h1 h2 r0 H0
      conv => whnf
      refine Call2.mono (hp _) fun r0 H0 h => ?_
      obtain ⟨h1, h2⟩ := h
      rw [h1, h2]
      clear h1 h2 r0 H0
      conv => whnf
      cases is
      · rw [if_neg (by simp)]
        conv => whnf
        exact ⟨_, vw_tk0, tkV_free _, rfl⟩
      · rw [if_pos rfl]
        conv => whnf
        refine stCall2 Go.Proofs.Tryd.func24 rfl (by decide) ?_
        conv => whnf
        intro hw
        refine wpc_drawG2 [8] [] [(7, 8)] (by rfl) (by kernel_rfl) (by kernel_rfl) hw ?_
        conv => whnf
        exact ⟨_, vw_tk1 (l := [(u64 ch, []), (u64 fr, []), (u64 bt, [])]) (.inl rfl), tkV_free _, rfl⟩

set_option maxHeartbeats 4000000 in
theorem stake3 (G : Nat → Option (List V)) (hG : G 4 = some wV) (ch fr bt : Int) (us wd ho : List UInt8) (c i : Int) (l : List Val') (hm : ∀ v ∈ l, v.2.length ≤ maxStr) :
    Call2 Go.Proofs.Tryd.prog G 16 [.agg (hcells ⟨3, ch, fr, bt, us, wd, ho⟩), .agg (mcells (c, i, l))] [] fun r H' => r.Free ∧ r = tkV (sTake ⟨3, ch, fr, bt, us, wd, ho⟩ (c, i, l)) := by
  have hr := mrightT_ct G hG (c, i, l) hm
  obtain ⟨e, hee⟩ : ∃ e, mright tbv (c, i, l) = e := ⟨_, rfl⟩
  rw [hee] at hr
  refine Call2.weakR ?_
  refine stCall2 Go.Proofs.Tryd.func16 rfl (by decide) ?_
  conv => whnf
  refine Call2.mono (hr _) fun r0 H0 h => ?_
  obtain ⟨h1, h2⟩ := h
  rw [h1, h2]
  clear h1 h2 r0 H0
  conv => whnf
  by_cases he : e ≠ 0
  · refine br_t (decide_eq_true he) ?_
    rw [sTake_bad (by rw [hee]; exact he)]
    conv => whnf
    exact ⟨_, vw_tk0, tkV_free _, rfl⟩
  refine br_f (decide_eq_false he) ?_
  rw [← hee] at he
  rw [sTake_3 he rfl]
  conv => whnf
  refine stCall2 Go.Proofs.Tryd.func29 rfl (by decide) ?_
  conv => whnf
  unfold sOpen
  refine Call2.mono (is_ct G _ 4 _ (c, i, l) _ 40 rfl) fun r0 H0 h => ?_
  obtain ⟨h1, h2⟩ := h
  rw [h1, h2]
  clear h1 h2 r0 H0
  conv => whnf
  cases h40 : isC (c, i, l) 40
  · rw [if_neg (by simp)]
    conv => whnf
    refine stCall2 Go.Proofs.Tryd.func30 rfl (by decide) ?_
    conv => whnf
    refine Call2.mono (is_ct G _ 4 _ (c, i, l) _ 50 rfl) fun r0 H0 h => ?_
    obtain ⟨h1, h2⟩ := h
    rw [h1, h2]
    clear h1 h2 r0 H0
    conv => whnf
    unfold sEnds
    cases h50 : isC (c, i, l) 50
    · rw [if_neg (by simp)]
      conv => whnf
      exact ⟨_, vw_tk0, tkV_free _, rfl⟩
    · rw [if_pos rfl]
      conv => whnf
      refine stCall2 Go.Proofs.Tryd.func24 rfl (by decide) ?_
      conv => whnf
      intro hw
      refine wpc_drawG2 [8] [] [(7, 8)] (by rfl) (by kernel_rfl) (by kernel_rfl) hw ?_
      conv => whnf
      exact ⟨_, vw_tk1 (l := []) (.inr rfl), tkV_free _, rfl⟩
  · rw [if_pos rfl]
    have harg0 := arg_ct G (c, i, l) 0
    generalize argOf (c, i, l) 0 = a0 at harg0 ⊢
    conv => whnf
    refine Call2.mono (harg0 _) fun r0 H0 h => ?_
    obtain ⟨h1, h2⟩ := h
    rw [h1, h2]
    clear h1 h2 r0 H0
    conv => whnf
    refine stCall2 Go.Proofs.Tryd.func24 rfl (by decide) ?_
    conv => whnf
    intro hw
    refine wpc_drawG2 [8] [] [(7, 8)] (by rfl) (by kernel_rfl) (by kernel_rfl) hw ?_
    conv => whnf
    exact ⟨_, vw_tk1 (l := [(0, [])]) (.inl rfl), tkV_free _, rfl⟩

end Go.Abs.Sig

/-! SV4 -/
namespace Go.Abs.Sig
open Go.RowKit Go.Abs
set_option linter.unusedSimpArgs false
set_option linter.unusedVariables false
set_option maxRecDepth 8000
attribute [local irreducible] StCall StYield WPc Weak IterOf Lp2



set_option maxHeartbeats 4000000 in
theorem stake4 (G : Nat → Option (List V)) (hG : G 4 = some wV) (ch fr bt : Int) (us wd ho : List UInt8) (c i : Int) (l : List Val') (hm : ∀ v ∈ l, v.2.length ≤ maxStr) :
    Call2 Go.Proofs.Tryd.prog G 16 [.agg (hcells ⟨4, ch, fr, bt, us, wd, ho⟩), .agg (mcells (c, i, l))] [] fun r H' => r.Free ∧ r = tkV (sTake ⟨4, ch, fr, bt, us, wd, ho⟩ (c, i, l)) := by
  have hr := mrightT_ct G hG (c, i, l) hm
  obtain ⟨e, hee⟩ : ∃ e, mright tbv (c, i, l) = e := ⟨_, rfl⟩
  rw [hee] at hr
  refine Call2.weakR ?_
  refine stCall2 Go.Proofs.Tryd.func16 rfl (by decide) ?_
  conv => whnf
  refine Call2.mono (hr _) fun r0 H0 h => ?_
  obtain ⟨h1, h2⟩ := h
  rw [h1, h2]
  clear h1 h2 r0 H0
  conv => whnf
  by_cases he : e ≠ 0
  · refine br_t (decide_eq_true he) ?_
    rw [sTake_bad (by rw [hee]; exact he)]
    conv => whnf
    exact ⟨_, vw_tk0, tkV_free _, rfl⟩
  refine br_f (decide_eq_false he) ?_
  rw [← hee] at he
  rw [sTake_4 he rfl]
  conv => whnf
  refine stCall2 Go.Proofs.Tryd.func30 rfl (by decide) ?_
  conv => whnf
  refine Call2.mono (is_ct G _ 4 _ (c, i, l) _ 50 rfl) fun r0 H0 h => ?_
  obtain ⟨h1, h2⟩ := h
  rw [h1, h2]
  clear h1 h2 r0 H0
  conv => whnf
  unfold sEnds
  cases h50 : isC (c, i, l) 50
  · rw [if_neg (by simp)]
    conv => whnf
    exact ⟨_, vw_tk0, tkV_free _, rfl⟩
  · rw [if_pos rfl]
    conv => whnf
    refine stCall2 Go.Proofs.Tryd.func24 rfl (by decide) ?_
    conv => whnf
    intro hw
    refine wpc_drawG2 [8] [] [(7, 8)] (by rfl) (by kernel_rfl) (by kernel_rfl) hw ?_
    conv => whnf
    exact ⟨_, vw_tk1 (l := []) (.inr rfl), tkV_free _, rfl⟩

set_option maxHeartbeats 4000000 in
theorem stake5 (G : Nat → Option (List V)) (hG : G 4 = some wV) (ch fr bt : Int) (us wd ho : List UInt8) (c i : Int) (l : List Val') (hm : ∀ v ∈ l, v.2.length ≤ maxStr) :
    Call2 Go.Proofs.Tryd.prog G 16 [.agg (hcells ⟨5, ch, fr, bt, us, wd, ho⟩), .agg (mcells (c, i, l))] [] fun r H' => r.Free ∧ r = tkV (sTake ⟨5, ch, fr, bt, us, wd, ho⟩ (c, i, l)) := by
  have hr := mrightT_ct G hG (c, i, l) hm
  obtain ⟨e, hee⟩ : ∃ e, mright tbv (c, i, l) = e := ⟨_, rfl⟩
  rw [hee] at hr
  refine Call2.weakR ?_
  refine stCall2 Go.Proofs.Tryd.func16 rfl (by decide) ?_
  conv => whnf
  refine Call2.mono (hr _) fun r0 H0 h => ?_
  obtain ⟨h1, h2⟩ := h
  rw [h1, h2]
  clear h1 h2 r0 H0
  conv => whnf
  by_cases he : e ≠ 0
  · refine br_t (decide_eq_true he) ?_
    rw [sTake_bad (by rw [hee]; exact he)]
    conv => whnf
    exact ⟨_, vw_tk0, tkV_free _, rfl⟩
  refine br_f (decide_eq_false he) ?_
  rw [← hee] at he
  rw [sTake_5 he rfl]
  conv => whnf
  refine stCall2 Go.Proofs.Tryd.func31 rfl (by decide) ?_
  conv => whnf
  unfold sClosing
  refine Call2.mono (is_ct G _ 4 _ (c, i, l) _ 51 rfl) fun r0 H0 h => ?_
  obtain ⟨h1, h2⟩ := h
  rw [h1, h2]
  clear h1 h2 r0 H0
  conv => whnf
  cases h51 : isC (c, i, l) 51
  · rw [if_neg (by simp)]
    conv => whnf
    refine Call2.mono (is_ct G _ 4 _ (c, i, l) _ 50 rfl) fun r0 H0 h => ?_
    obtain ⟨h1, h2⟩ := h
    rw [h1, h2]
    clear h1 h2 r0 H0
    conv => whnf
    cases h50 : isC (c, i, l) 50
    · rw [if_neg (by simp)]
      conv => whnf
      intro hw
      refine wpc_drawG2 [8] [] [(7, 8)] (by rfl) (by kernel_rfl) (by kernel_rfl) hw ?_
      conv => whnf
      exact ⟨_, vw_tk0, tkV_free _, rfl⟩
    · rw [if_pos rfl]
      conv => whnf
      refine stCall2 Go.Proofs.Tryd.func24 rfl (by decide) ?_
      conv => whnf
      intro hw
      refine wpc_drawG2 [8] [] [(7, 8)] (by rfl) (by kernel_rfl) (by kernel_rfl) hw ?_
      conv => whnf
      exact ⟨_, vw_tk1 (l := []) (.inr rfl), tkV_free _, rfl⟩
  · rw [if_pos rfl]
    conv => whnf
    intro hw
    refine wpc_drawG2 [8] [] [(7, 8)] (by rfl) (by kernel_rfl) (by kernel_rfl) hw ?_
    conv => whnf
    exact ⟨_, vw_tk0, tkV_free _, rfl⟩

set_option maxHeartbeats 4000000 in
theorem stake6 (G : Nat → Option (List V)) (hG : G 4 = some wV) (ch fr bt : Int) (us wd ho : List UInt8) (c i : Int) (l : List Val') (hm : ∀ v ∈ l, v.2.length ≤ maxStr) :
    Call2 Go.Proofs.Tryd.prog G 16 [.agg (hcells ⟨6, ch, fr, bt, us, wd, ho⟩), .agg (mcells (c, i, l))] [] fun r H' => r.Free ∧ r = tkV (sTake ⟨6, ch, fr, bt, us, wd, ho⟩ (c, i, l)) := by
  have hr := mrightT_ct G hG (c, i, l) hm
  obtain ⟨e, hee⟩ : ∃ e, mright tbv (c, i, l) = e := ⟨_, rfl⟩
  rw [hee] at hr
  refine Call2.weakR ?_
  refine stCall2 Go.Proofs.Tryd.func16 rfl (by decide) ?_
  conv => whnf
  refine Call2.mono (hr _) fun r0 H0 h => ?_
  obtain ⟨h1, h2⟩ := h
  rw [h1, h2]
  clear h1 h2 r0 H0
  conv => whnf
  by_cases he : e ≠ 0
  · refine br_t (decide_eq_true he) ?_
    rw [sTake_bad (by rw [hee]; exact he)]
    conv => whnf
    exact ⟨_, vw_tk0, tkV_free _, rfl⟩
  refine br_f (decide_eq_false he) ?_
  rw [← hee] at he
  rw [sTake_6 he rfl]
  conv => whnf
  refine stCall2 Go.Proofs.Tryd.func32 rfl (by decide) ?_
  conv => whnf
  intro hw
  refine wpc_drawG2 [8] [] [(7, 8)] (by rfl) (by kernel_rfl) (by kernel_rfl) hw ?_
  conv => whnf
  exact ⟨_, vw_tk0, tkV_free _, rfl⟩

end Go.Abs.Sig

/-! SV5 -/
namespace Go.Abs.Sig
open Go.RowKit Go.Abs
set_option linter.unusedSimpArgs false
set_option linter.unusedVariables false
set_option maxRecDepth 8000
attribute [local irreducible] StCall StYield WPc Weak IterOf Lp2



def sTuneR (ch fr bt : Int) (us wd ho : List UInt8) (A B C : Int) : Hand × List Met × Int :=
  if A > ch ∨ B > fr ∨ (B ≠ 0 ∧ B < 4096) then (⟨2, ch, fr, bt, us, wd, ho⟩, [], 14)
  else (⟨3, if A = 0 then ch else A, if B = 0 then fr else B, if bt < C then bt else C, us, wd, ho⟩, [], 0)
theorem sTuneR_eq {ch fr bt : Int} {us wd ho : List UInt8} {A B C : Int} : (if A > (⟨2, ch, fr, bt, us, wd, ho⟩ : Hand).ch ∨ B > (⟨2, ch, fr, bt, us, wd, ho⟩ : Hand).fr ∨ (B ≠ 0 ∧ B < 4096) then ((⟨2, ch, fr, bt, us, wd, ho⟩ : Hand), ([] : List Met), (14 : Int))
    else ({ (⟨2, ch, fr, bt, us, wd, ho⟩ : Hand) with ch := if A = 0 then (⟨2, ch, fr, bt, us, wd, ho⟩ : Hand).ch else A, fr := if B = 0 then (⟨2, ch, fr, bt, us, wd, ho⟩ : Hand).fr else B, bt := if (⟨2, ch, fr, bt, us, wd, ho⟩ : Hand).bt < C then (⟨2, ch, fr, bt, us, wd, ho⟩ : Hand).bt else C, st := 3 }, [], 0)) = sTuneR ch fr bt us wd ho A B C := rfl
theorem sTuneR_bad {ch fr bt : Int} (us wd ho : List UInt8) {A B : Int} (C : Int) (h : A > ch ∨ B > fr ∨ (B ≠ 0 ∧ B < 4096)) : sTuneR ch fr bt us wd ho A B C = (⟨2, ch, fr, bt, us, wd, ho⟩, [], 14) := if_pos h
theorem sTuneR_ok {ch fr bt : Int} (us wd ho : List UInt8) {A B : Int} (C : Int) (h : ¬(A > ch ∨ B > fr ∨ (B ≠ 0 ∧ B < 4096))) :
    sTuneR ch fr bt us wd ho A B C = (⟨3, if A = 0 then ch else A, if B = 0 then fr else B, if bt < C then bt else C, us, wd, ho⟩, [], 0) := if_neg h
set_option maxHeartbeats 4000000 in
theorem stake2 (G : Nat → Option (List V)) (hG : G 4 = some wV) (ch fr bt : Int) (us wd ho : List UInt8) (c i : Int) (l : List Val') (hm : ∀ v ∈ l, v.2.length ≤ maxStr) :
    Call2 Go.Proofs.Tryd.prog G 16 [.agg (hcells ⟨2, ch, fr, bt, us, wd, ho⟩), .agg (mcells (c, i, l))] [] fun r H' => r.Free ∧ r = tkV (sTake ⟨2, ch, fr, bt, us, wd, ho⟩ (c, i, l)) := by
  have hr := mrightT_ct G hG (c, i, l) hm
  obtain ⟨e, hee⟩ : ∃ e, mright tbv (c, i, l) = e := ⟨_, rfl⟩
  rw [hee] at hr
  refine Call2.weakR ?_
  refine stCall2 Go.Proofs.Tryd.func16 rfl (by decide) ?_
  conv => whnf
  refine Call2.mono (hr _) fun r0 H0 h => ?_
  obtain ⟨h1, h2⟩ := h
  rw [h1, h2]
  clear h1 h2 r0 H0
  conv => whnf
  by_cases he : e ≠ 0
  · refine br_t (decide_eq_true he) ?_
    rw [sTake_bad (by rw [hee]; exact he)]
    conv => whnf
    exact ⟨_, vw_tk0, tkV_free _, rfl⟩
  refine br_f (decide_eq_false he) ?_
  rw [← hee] at he
  rw [sTake_2 he rfl]
  conv => whnf
  refine stCall2 Go.Proofs.Tryd.func28 rfl (by decide) ?_
  conv => whnf
  unfold sTune
  refine Call2.mono (is_ct G _ 4 _ (c, i, l) _ 31 rfl) fun r0 H0 h => ?_
  obtain ⟨h1, h2⟩ := h
  rw [h1, h2]
  clear h1 h2 r0 H0
  conv => whnf
  cases h31 : isC (c, i, l) 31
  · rw [if_neg (by simp)]
    conv => whnf
    refine stCall2 Go.Proofs.Tryd.func30 rfl (by decide) ?_
    conv => whnf
    refine Call2.mono (is_ct G _ 4 _ (c, i, l) _ 50 rfl) fun r0 H0 h => ?_
    obtain ⟨h1, h2⟩ := h
    rw [h1, h2]
    clear h1 h2 r0 H0
    conv => whnf
    unfold sEnds
    cases h50 : isC (c, i, l) 50
    · rw [if_neg (by simp)]
      conv => whnf
      exact ⟨_, vw_tk0, tkV_free _, rfl⟩
    · rw [if_pos rfl]
      conv => whnf
      refine stCall2 Go.Proofs.Tryd.func24 rfl (by decide) ?_
      conv => whnf
      intro hw
      refine wpc_drawG2 [8] [] [(7, 8)] (by rfl) (by kernel_rfl) (by kernel_rfl) hw ?_
      conv => whnf
      exact ⟨_, vw_tk1 (l := []) (.inr rfl), tkV_free _, rfl⟩
  · rw [if_pos rfl]
    have harg0 := arg_ct G (c, i, l) 0
    have harg1 := arg_ct G (c, i, l) 1
    have harg2 := arg_ct G (c, i, l) 2
    generalize argOf (c, i, l) 0 = a0 at harg0 ⊢
    generalize argOf (c, i, l) 1 = a1 at harg1 ⊢
    generalize argOf (c, i, l) 2 = a2 at harg2 ⊢
    conv => whnf
    intro hw
    refine wpc_drawG2 [14, 15] [] [] (by rfl) (by kernel_rfl) (by kernel_rfl) hw ?_
    conv => whnf
    refine ⟨_, fun X _ => tuneArg_ct G _ _ (c, i, l) _ 0 a0 harg0 rfl rfl, ?_⟩
    conv => whnf
    refine ⟨_, fun X _ => tuneArg_ct G _ _ (c, i, l) _ 1 a1 harg1 rfl rfl, ?_⟩
    conv => whnf
    refine ⟨_, fun X _ => tuneArg_ct G _ _ (c, i, l) _ 2 a2 harg2 rfl rfl, ?_⟩
    conv => whnf
    rw [sTuneR_eq]
    generalize i64 a0.1 = A
    generalize i64 a1.1 = B
    generalize i64 a2.1 = C
    intro hw2
    refine wpc_draw2 10 (by rfl) (by decide) (by kernel_rfl) hw2 ?_
    conv => whnf
    have hres : sTuneR ch fr bt us wd ho A B C = sTuneR ch fr bt us wd ho A B C := rfl
    by_cases hA : A > ch
    · rw [sTuneR_bad us wd ho C (.inl hA)]
      refine br_t (decide_eq_true hA) ?_
      conv => whnf
      exact ⟨_, vw_tk0, tkV_free _, rfl⟩
    refine br_f (decide_eq_false hA) ?_
    conv => whnf
    intro hw3
    refine wpc_draw2 20 (by rfl) (by decide) (by kernel_rfl) hw3 ?_
    conv => whnf
    by_cases hB : B > fr
    · rw [sTuneR_bad us wd ho C (.inr (.inl hB))]
      refine br_t (decide_eq_true hB) ?_
      conv => whnf
      exact ⟨_, vw_tk0, tkV_free _, rfl⟩
    refine br_f (decide_eq_false hB) ?_
    conv => whnf
    by_cases hB0 : B ≠ 0
    · refine br_t (decide_eq_true hB0) ?_
      conv => whnf
      by_cases hB1 : B < 4096
      · rw [sTuneR_bad us wd ho C (.inr (.inr ⟨hB0, hB1⟩))]
        refine br_t (decide_eq_true hB1) ?_
        conv => whnf
        exact ⟨_, vw_tk0, tkV_free _, rfl⟩
      · rw [sTuneR_ok us wd ho C (by omega)]
        refine br_f (decide_eq_false hB1) ?_
        rw [if_neg hB0]
        conv => whnf
        by_cases hA0 : A = 0
        · rw [if_pos hA0]
          refine br_t (decide_eq_true hA0) ?_
          conv => whnf
          refine br_f (decide_eq_false hB0) ?_
          conv => whnf
          intro hw4
          refine wpc_drawG2 [6, 10] [] [(1, 6)] (by rfl) (by kernel_rfl) (by kernel_rfl) hw4 ?_
          conv => whnf
          intro hw5
          refine wpc_drawG2 [8] [] [(7, 8)] (by rfl) (by kernel_rfl) (by kernel_rfl) hw5 ?_
          conv => whnf
          exact ⟨_, vw_tk0, tkV_free _, rfl⟩
        · rw [if_neg hA0]
          refine br_f (decide_eq_false hA0) ?_
          conv => whnf
          refine br_f (decide_eq_false hB0) ?_
          conv => whnf
          intro hw4
          refine wpc_drawG2 [6, 10] [] [(1, 6)] (by rfl) (by kernel_rfl) (by kernel_rfl) hw4 ?_
          conv => whnf
          intro hw5
          refine wpc_drawG2 [8] [] [(7, 8)] (by rfl) (by kernel_rfl) (by kernel_rfl) hw5 ?_
          conv => whnf
          exact ⟨_, vw_tk0, tkV_free _, rfl⟩
    · have hB00 : B = 0 := by omega
      rw [sTuneR_ok us wd ho C (by omega)]
      refine br_f (decide_eq_false hB0) ?_
      rw [if_pos hB00]
      conv => whnf
      by_cases hA0 : A = 0
      · rw [if_pos hA0]
        refine br_t (decide_eq_true hA0) ?_
        conv => whnf
        refine br_t (decide_eq_true hB00) ?_
        conv => whnf
        intro hw4
        refine wpc_drawG2 [6, 10] [] [(1, 6)] (by rfl) (by kernel_rfl) (by kernel_rfl) hw4 ?_
        conv => whnf
        intro hw5
        refine wpc_drawG2 [8] [] [(7, 8)] (by rfl) (by kernel_rfl) (by kernel_rfl) hw5 ?_
        conv => whnf
        exact ⟨_, vw_tk0, tkV_free _, rfl⟩
      · rw [if_neg hA0]
        refine br_f (decide_eq_false hA0) ?_
        conv => whnf
        refine br_t (decide_eq_true hB00) ?_
        conv => whnf
        intro hw4
        refine wpc_drawG2 [6, 10] [] [(1, 6)] (by rfl) (by kernel_rfl) (by kernel_rfl) hw4 ?_
        conv => whnf
        intro hw5
        refine wpc_drawG2 [8] [] [(7, 8)] (by rfl) (by kernel_rfl) (by kernel_rfl) hw5 ?_
        conv => whnf
        exact ⟨_, vw_tk0, tkV_free _, rfl⟩
end Go.Abs.Sig

/-! SV6 -/
namespace Go.Abs.Sig
open Go.RowKit Go.Abs
set_option linter.unusedSimpArgs false
set_option linter.unusedVariables false
set_option maxRecDepth 8000
attribute [local irreducible] StCall StYield WPc Weak IterOf Lp2

theorem stake_ct (G : Nat → Option (List V)) (hG : G 4 = some wV) (h : Hand) (m : Met) (hm : ∀ v ∈ m.2.2, v.2.length ≤ maxStr) (H : Heap) : Call2 Go.Proofs.Tryd.prog G 16 [.agg (hcells h), .agg (mcells m)] H fun r H' => H' = H ∧ r = tkV (sTake h m) := by
  refine Call2.free (fun x hx => by
    simp only [List.mem_cons, List.not_mem_nil, or_false] at hx
    rcases hx with rfl | rfl
    · exact hcells_free _
    · exact mcells_free _) ?_ H
  obtain ⟨st, ch, fr, bt, us, wd, ho⟩ := h
  obtain ⟨c, i, l⟩ := m
  by_cases hin : 0 ≤ st ∧ st < 7
  · have hst : st = 0 ∨ st = 1 ∨ st = 2 ∨ st = 3 ∨ st = 4 ∨ st = 5 ∨ st = 6 := by omega
    rcases hst with rfl | rfl | rfl | rfl | rfl | rfl | rfl
    · exact stake0 G hG ch fr bt us wd ho c i l hm
    · exact stake1 G hG ch fr bt us wd ho c i l hm
    · exact stake2 G hG ch fr bt us wd ho c i l hm
    · exact stake3 G hG ch fr bt us wd ho c i l hm
    · exact stake4 G hG ch fr bt us wd ho c i l hm
    · exact stake5 G hG ch fr bt us wd ho c i l hm
    · exact stake6 G hG ch fr bt us wd ho c i l hm
  have hr := mrightT_ct G hG (c, i, l) hm
  obtain ⟨e, hee⟩ : ∃ e, mright tbv (c, i, l) = e := ⟨_, rfl⟩
  rw [hee] at hr
  refine Call2.weakR ?_
  refine stCall2 Go.Proofs.Tryd.func16 rfl (by decide) ?_
  conv => whnf
  refine Call2.mono (hr _) fun r0 H0 h => ?_
  obtain ⟨h1, h2⟩ := h
  rw [h1, h2]
  clear h1 h2 r0 H0
  conv => whnf
  by_cases he : e ≠ 0
  · refine br_t (decide_eq_true he) ?_
    rw [sTake_bad (by rw [hee]; exact he)]
    conv => whnf
    exact ⟨_, vw_tk0, tkV_free _, rfl⟩
  refine br_f (decide_eq_false he) ?_
  conv => whnf
  have hres : sTake ⟨st, ch, fr, bt, us, wd, ho⟩ (c, i, l) = (⟨st, ch, fr, bt, us, wd, ho⟩, [], 8) := by
    unfold sTake
    rw [if_neg (by rw [hee]; exact he)]
    by_cases h0 : st < 0
    · rw [if_pos h0]
    · rw [if_neg h0, if_pos (by simp only; omega)]
  rw [hres]
  by_cases h0 : st < 0
  · refine br_t (decide_eq_true h0) ?_
    conv => whnf
    exact ⟨_, vw_tk0, tkV_free _, rfl⟩
  refine br_f (decide_eq_false h0) ?_
  conv => whnf
  have h7 : 7 ≤ st := by omega
  refine br_t (decide_eq_true h7) ?_
  conv => whnf
  exact ⟨_, vw_tk0, tkV_free _, rfl⟩
end Go.Abs.Sig

/-! SV7 -/
namespace Go.Abs.Sig
open Go.RowKit Go.Abs
set_option linter.unusedSimpArgs false
set_option linter.unusedVariables false
set_option maxRecDepth 8000
attribute [local irreducible] StCall StYield WPc Weak IterOf Lp2

def inR (n low high : Int) : Bool := decide (low ≤ n) && decide (n ≤ high)
/-- May a tune be? -/
def tR (ch fr bt : Int) : Bool := inR ch 1 65535 && (inR fr 4096 131072 && inR bt 0 65535)
def tcells (ch fr bt : Int) : List V := [.int .i64 ch, .int .i64 fr, .int .i64 bt]
theorem tcells_free' (ch fr bt : Int) : ∀ v ∈ tcells ch fr bt, v.Free := fun v hv => by
  simp only [tcells, List.mem_cons, List.not_mem_nil, or_false] at hv
  rcases hv with rfl | rfl | rfl
  · exact .im _
  · exact .im _
  · exact .im _
theorem tcells_free (ch fr bt : Int) : (V.agg (tcells ch fr bt)).Free := .agg _ (tcells_free' ch fr bt)

theorem within_ct' (G : Nat → Option (List V)) (n low high : Int) (H : Heap) : Call2 Go.Proofs.Tryd.prog G 34 [.int .i64 n, .int .i64 low, .int .i64 high] H fun r H' => H' = H ∧ r = .bool (inR n low high) := by
  refine Call2.free (int_free (vs := [n, low, high])) ?_ H
  unfold inR
  refine stCall2 Go.Proofs.Tryd.func34 rfl (by decide) ?_
  conv => whnf
  cases h1 : decide (low ≤ n)
  · conv => whnf
    exact ⟨.im _, rfl⟩
  · conv => whnf
    exact ⟨.im _, rfl⟩

theorem sright_ct (G : Nat → Option (List V)) (ch fr bt : Int) (H : Heap) : Call2 Go.Proofs.Tryd.prog G 18 [.agg (tcells ch fr bt)] H fun r H' => H' = H ∧ r = .bool (tR ch fr bt) := by
  refine Call2.free (fun x hx => by
    simp only [List.mem_cons, List.not_mem_nil, or_false] at hx
    subst hx
    exact tcells_free _ _ _) ?_ H
  unfold tR
  refine stCall2 Go.Proofs.Tryd.func18 rfl (by decide) ?_
  conv => whnf
  refine Call2.mono (within_ct' G ch 1 65535 _) fun r0 H0 h => ?_
  obtain ⟨h1, h2⟩ := h
  rw [h1, h2]
  clear h1 h2 r0 H0
  conv => whnf
  cases h1 : inR ch 1 65535
  · conv => whnf
    exact ⟨.im _, rfl⟩
  · conv => whnf
    refine Call2.mono (within_ct' G fr 4096 131072 _) fun r0 H0 h => ?_
    obtain ⟨h1, h2⟩ := h
    rw [h1, h2]
    clear h1 h2 r0 H0
    conv => whnf
    cases h2 : inR fr 4096 131072
    · conv => whnf
      exact ⟨.im _, rfl⟩
    · conv => whnf
      refine Call2.mono (within_ct' G bt 0 65535 _) fun r0 H0 h => ?_
      obtain ⟨h1, h2⟩ := h
      rw [h1, h2]
      clear h1 h2 r0 H0
      conv => whnf
      exact ⟨.im _, rfl⟩

theorem rright10_ct (G : Nat → Option (List V)) (ch fr bt : Int) (H : Heap) : Call2 Go.Proofs.Tryd.prog G 17 [.agg (tcells ch fr bt)] H fun r H' => H' = H ∧ r = .bool (tR ch fr bt) := by
  refine Call2.free (fun x hx => by
    simp only [List.mem_cons, List.not_mem_nil, or_false] at hx
    subst hx
    exact tcells_free _ _ _) ?_ H
  unfold tR inR
  refine stCall2 Go.Proofs.Tryd.func17 rfl (by decide) ?_
  conv => whnf
  cases h1 : decide (1 ≤ ch)
  · conv => whnf
    exact ⟨.im _, rfl⟩
  conv => whnf
  cases h2 : decide (ch ≤ 65535)
  · conv => whnf
    exact ⟨.im _, rfl⟩
  conv => whnf
  cases h3 : decide (4096 ≤ fr)
  · conv => whnf
    exact ⟨.im _, rfl⟩
  conv => whnf
  cases h4 : decide (fr ≤ 131072)
  · conv => whnf
    exact ⟨.im _, rfl⟩
  conv => whnf
  cases h5 : decide (0 ≤ bt)
  · conv => whnf
    exact ⟨.im _, rfl⟩
  conv => whnf
  exact ⟨.im _, rfl⟩

theorem sempty_ct (G : Nat → Option (List V)) (H : Heap) : Call2 Go.Proofs.Tryd.prog G 23 [] H fun r H' => H' = H ∧ r = .str [0, 0, 0, 0] := by
  refine Call2.free (fun x hx => by cases hx) ?_ H
  refine stCall2 Go.Proofs.Tryd.func23 rfl (by decide) ?_
  conv => whnf
  exact ⟨.str _, rfl⟩
theorem ssays_ct (G : Nat → Option (List V)) (a b : Int) (es : Nat) (l : List Val') (fl : Fl) (H : Heap) (hfl : ∀ c, fl ≠ .cls c := by intro c h; cases h) :
    Call2 Go.Proofs.Tryd.prog G 24 [.int .i64 a, .int .i64 b, .dat es (vals l) fl] H fun r H' => H' = H ∧ r = .dat 3 [[.int .i64 a, .int .i64 b, .dat es (vals l) fl]] .tight := by
  refine Call2.free (fun x hx => by
    simp only [List.mem_cons, List.not_mem_nil, or_false] at hx
    rcases hx with rfl | rfl | rfl
    · exact .im _
    · exact .im _
    · exact .dat _ _ _ hfl) ?_ H
  refine stCall2 Go.Proofs.Tryd.func24 rfl (by decide) ?_
  cases fl with
  | cls c => exact absurd rfl (hfl c)
  | no =>
    conv => whnf
    exact ⟨.dat _ _ _ (by simp), rfl⟩
  | tight =>
    conv => whnf
    exact ⟨.dat _ _ _ (by simp), rfl⟩

def zHand : Hand := ⟨0, 0, 0, 0, [], [], []⟩
def sBegin (ch fr bt : Int) : Hand × Int := if tR ch fr bt then (⟨0, ch, fr, bt, [], [], []⟩, 0) else (zHand, 1)
theorem sbegin_ct (G : Nat → Option (List V)) (ch fr bt : Int) (H : Heap) : Call2 Go.Proofs.Tryd.prog G 13 [.agg (tcells ch fr bt)] H fun r H' => H' = H ∧ r = .tup [.agg (hcells (sBegin ch fr bt).1), .int .i64 (sBegin ch fr bt).2] := by
  refine Call2.free (fun x hx => by
    simp only [List.mem_cons, List.not_mem_nil, or_false] at hx
    subst hx
    exact tcells_free _ _ _) ?_ H
  unfold sBegin
  refine stCall2 Go.Proofs.Tryd.func13 rfl (by decide) ?_
  conv => whnf
  refine Call2.mono (sright_ct G ch fr bt _) fun r0 H0 h => ?_
  obtain ⟨h1, h2⟩ := h
  rw [h1, h2]
  clear h1 h2 r0 H0
  conv => whnf
  cases h1 : tR ch fr bt
  · rw [if_neg (by simp)]
    conv => whnf
    exact ⟨free_tup2 (hcells_free zHand) (.im _), rfl⟩
  · rw [if_pos rfl]
    conv => whnf
    exact ⟨free_tup2 (hcells_free ⟨0, ch, fr, bt, [], [], []⟩) (.im _), rfl⟩

def startM : Met := (10, 10, [(0, []), (9, []), (0, [0, 0, 0, 0]), (0, PLAIN), (0, [101, 110, 95, 85, 83])])
def sGreet (h : Hand) : Hand × List Met × Int := if h.st ≠ 0 then (h, [], 8) else ({ h with st := 1 }, [startM], 0)
theorem sgreet_ct (G : Nat → Option (List V)) (h : Hand) (H : Heap) : Call2 Go.Proofs.Tryd.prog G 14 [.agg (hcells h)] H fun r H' => H' = H ∧ r = tkV (sGreet h) := by
  refine Call2.free (fun x hx => by
    simp only [List.mem_cons, List.not_mem_nil, or_false] at hx
    subst hx
    exact hcells_free _) ?_ H
  refine Call2.weakR ?_
  obtain ⟨st, ch, fr, bt, us, wd, ho⟩ := h
  unfold sGreet
  refine stCall2 Go.Proofs.Tryd.func14 rfl (by decide) ?_
  conv => whnf
  by_cases h0 : st ≠ 0
  · rw [if_pos h0]
    refine br_t (decide_eq_true h0) ?_
    conv => whnf
    exact ⟨_, vw_tk0, tkV_free _, rfl⟩
  · rw [if_neg h0]
    refine br_f (decide_eq_false h0) ?_
    conv => whnf
    intro hw
    refine wpc_drawG2 [9] [] [] (by rfl) (by kernel_rfl) (by kernel_rfl) hw ?_
    conv => whnf
    refine ⟨_, fun X _ => sempty_ct G _, ?_⟩
    conv => whnf
    refine ⟨_, fun X _ => ssays_ct G 10 10 2 startM.2.2 .tight _, ?_⟩
    conv => whnf
    exact ⟨_, vw_tk1 (l := startM.2.2) (.inl rfl), tkV_free _, rfl⟩

def sShut (h : Hand) (e c i : Int) : Hand × List Met := if h.st = 5 ∨ h.st = 6 then (h, []) else ({ h with st := 5 }, [(10, 50, closeArgs e c i)])
theorem sshut_ct (h : Hand) (e c i : Int) (H : Heap) : Call2 Go.Proofs.Tryd.prog GC 19 [.agg (hcells h), .int .i64 e, .int .i64 c, .int .i64 i] H fun r H' => H' = H ∧ r = .tup [.agg (hcells (sShut h e c i).1), .dat 3 (mrows (sShut h e c i).2) .no] := by
  refine Call2.free (fun x hx => by
    simp only [List.mem_cons, List.not_mem_nil, or_false] at hx
    rcases hx with rfl | rfl | rfl | rfl
    · exact hcells_free _
    · exact .im _
    · exact .im _
    · exact .im _) ?_ H
  refine Call2.weakR ?_
  obtain ⟨st, ch, fr, bt, us, wd, ho⟩ := h
  unfold sShut
  refine stCall2 Go.Proofs.Tryd.func19 rfl (by decide) ?_
  conv => whnf
  by_cases h5 : st = 5
  · rw [if_pos (.inl h5)]
    refine br_t (decide_eq_true h5) ?_
    conv => whnf
    exact ⟨_, vw_tup2 vw_hand vw_mets0, free_tup2 (hcells_free _) (mrows_free _), rfl⟩
  refine br_f (decide_eq_false h5) ?_
  conv => whnf
  by_cases h6 : st = 6
  · rw [if_pos (.inr h6)]
    refine br_t (decide_eq_true h6) ?_
    conv => whnf
    exact ⟨_, vw_tup2 vw_hand vw_mets0, free_tup2 (hcells_free _) (mrows_free _), rfl⟩
  refine br_f (decide_eq_false h6) ?_
  rw [if_neg (fun h => h.elim h5 h6)]
  have hcl := close_ct e c i
  obtain ⟨ca, cb, hcm⟩ := closeM_args e c i
  rw [hcm] at hcl
  conv => whnf
  refine Call2.mono (hcl _) fun r0 H0 h => ?_
  obtain ⟨h1, h2⟩ := h
  rw [h1, h2]
  clear h1 h2 r0 H0
  conv => whnf
  intro hw
  refine wpc_drawG2 [4] [] [] (by rfl) (by kernel_rfl) (by kernel_rfl) hw ?_
  conv => whnf
  refine ⟨_, fun X _ => ssays_ct GC 10 50 2 (closeArgs e c i) .no _, ?_⟩
  conv => whnf
  exact ⟨_, vw_tup2 vw_hand (vw_mets [(2, .no, 10, 50, closeArgs e c i)] (by simp)), free_tup2 (hcells_free _) (mrows_free _), rfl⟩

def reS (l : List Met) (j : Nat) : S2 := headS 16 ([.dat 3 (mrows l) .no, .bad, .bad, .int .i64 (j : Int)] ++ List.replicate 12 .bad) [] [] none
theorem mrows_get {l : List Met} {j : Nat} {m : Met} (h : l[j]? = some m) : (mrows l)[Int.toNat (j : Int)]? = some (mcells m) := by
  show (mrows l)[j]? = _
  unfold mrows
  rw [List.getElem?_map, h]; rfl
/-- What may be there. -/
def MetOk (m : Met) : Prop := (∀ v ∈ m.2.2, Rng v) ∧ ∀ v ∈ m.2.2, v.2.length ≤ maxStr
def allR (l : List Met) : Bool := l.all fun m => decide (mright tbv m = 0)
theorem rrights_ct (G : Nat → Option (List V)) (l : List Met) (hm : ∀ m ∈ l, MetOk m) (hl : l.length ≤ 140737488355328) (H : Heap) : Call2 Go.Proofs.Tryd.prog G 15 [.dat 3 (mrows l) .no] H fun r H' => H' = H ∧ r = .bool (allR l) := by
  refine Call2.free (fun x hx => by
    simp only [List.mem_cons, List.not_mem_nil, or_false] at hx
    subst hx
    exact mrows_free _) ?_ H
  refine stCall2 Go.Proofs.Tryd.func15 rfl (by decide) ?_
  conv => whnf
  intro hw
  refine wpc_loop2 (fun n1 s1 => ∃ j : Nat, j ≤ l.length ∧ n1 = l.length - j ∧ s1 = reS l j ∧ ∀ m ∈ l.take j, mright tbv m = 0) l.length (reS l 0) ?_ ⟨0, by omega, rfl, rfl, fun m hm => by simp at hm⟩ ?_ ?_
  · exact weak2 hw rfl ⟨.dat _ _ _, .im _, trivial⟩ (.nil _) (fun id hid => by cases hid) rfl (fun id hid => by cases hid)
  · rintro n1 s1 ⟨j, _, _, rfl, _⟩
    exact ⟨⟨Nat.le_refl 16, fun x hx => by cases hx⟩, rfl, Nat.le_refl _, rfl⟩
  · rintro n1 s1 ⟨j, hj, rfl, rfl, hall⟩
    have hml : (mrows l).length = l.length := by simp [mrows]
    by_cases hjl : j < l.length
    · obtain ⟨m, hmj⟩ : ∃ m, l[j]? = some m := ⟨_, List.getElem?_eq_getElem hjl⟩
      have hgj := mrows_get hmj
      have hgd : (true && true && decide ((0 : Int) ≤ (j : Int))) = true := by simp
      have hwj : IntKind.i64.wrap ((j : Int) + 1) = ((j + 1 : Nat) : Int) := by rw [wrap_i64 (by omega) (by omega)]; rfl
      have hmm := hm m (List.mem_of_getElem? hmj)
      have hr := rrightT_ct G m hmm.1 hmm.2
      have hmem := List.mem_of_getElem? hmj
      conv => whnf
      rw [hml]
      refine br_t (decide_eq_true (by omega)) ?_
      conv => whnf
      refine grd_intro hgd (optK_intro hgj ?_)
      conv => whnf
      refine Call2.mono (hr _) fun r0 H0 h => ?_
      obtain ⟨h1, h2⟩ := h
      rw [h1, h2]
      clear h1 h2 r0 H0
      conv => whnf
      by_cases h0 : mright tbv m ≠ 0
      · refine br_t (decide_eq_true h0) ?_
        conv => whnf
        refine ⟨.im _, ?_⟩
        have : allR l = false := by
          unfold allR
          rw [List.all_eq_false]
          exact ⟨m, hmem, by simpa using h0⟩
        rw [this]; rfl
      · refine br_f (decide_eq_false h0) ?_
        conv => whnf
        intro hw2
        refine ⟨l.length - (j + 1), reS l (j + 1), by omega, ?_, j + 1, by omega, rfl, rfl, fun x hx => ?_⟩
        · exact weak2 hw2 rfl ⟨.dat _ _ _, .int hwj, trivial⟩ (.nil _) (fun id hid => by cases hid) rfl (fun id hid => by cases hid)
        · rw [List.take_add_one, hmj, List.mem_append] at hx
          rcases hx with hx | hx
          · exact hall x hx
          · simp at hx; subst hx; simpa using h0
    · have hje : j = l.length := by omega
      conv => whnf
      rw [hml]
      refine br_f (decide_eq_false (by omega)) ?_
      conv => whnf
      refine ⟨.im _, ?_⟩
      have : allR l = true := by
        unfold allR
        rw [List.all_eq_true]
        intro x hx
        exact decide_eq_true (hall x (by rw [hje, List.take_length]; exact hx))
      rw [this]; rfl
end Go.Abs.Sig

/-! SV8 -/
namespace Go.Abs.Sig
open Go.RowKit Go.Abs
set_option linter.unusedSimpArgs false
set_option linter.unusedVariables false
set_option maxRecDepth 8000
attribute [local irreducible] StCall StYield WPc Weak IterOf Lp2

/-! ### connections are compared -/
theorem eqT27 : (!Go.Program.eqGuardType Go.Proofs.Tryd.prog (Go.Program.depth Go.Proofs.Tryd.prog) 27 && aggT Go.Proofs.Tryd.prog 27) = true := by kernel_rfl
theorem flat27 : flatEq Go.Proofs.Tryd.prog 50 27 = some [.i, .i, .i, .i, .s, .s, .s] := by kernel_rfl
theorem eq27 (a b : Hand) : cellsEq [.i, .i, .i, .i, .s, .s, .s] (hcells a) (hcells b) = some (decide (a = b)) := by
  obtain ⟨a1, a2, a3, a4, a5, a6, a7⟩ := a
  obtain ⟨b1, b2, b3, b4, b5, b6, b7⟩ := b
  show some _ = _
  congr 1
  rw [Bool.eq_iff_iff]
  simp
theorem eqT23 : (!Go.Program.eqGuardType Go.Proofs.Tryd.prog (Go.Program.depth Go.Proofs.Tryd.prog) 23 && aggT Go.Proofs.Tryd.prog 23) = true := by kernel_rfl
theorem flat23 : flatEq Go.Proofs.Tryd.prog 50 23 = some [.i, .i, .i] := by kernel_rfl
theorem eq23 (a b c a' b' c' : Int) : cellsEq [.i, .i, .i] (tcells a b c) (tcells a' b' c') = some (decide (a = a' ∧ b = b' ∧ c = c')) := by
  show some _ = _
  congr 1
  rw [Bool.eq_iff_iff]
  simp

/-! ### the example -/
def exM : Met := (10, 11, [(0, [0, 0, 0, 0]), (0, PLAIN), (0, [0, 117, 0, 112]), (0, [101, 110, 95, 85, 83])])
set_option maxRecDepth 100000 in
theorem shown_take : sTake ⟨1, 9, 4096, 5, [], [], []⟩ exM = (⟨2, 9, 4096, 5, [117], [112], []⟩, [(10, 30, [(9, []), (4096, []), (5, [])])], 0) := by kernel_rfl

theorem shown10_ct (G : Nat → Option (List V)) (hG : G 4 = some wV) (H : Heap) : Call2 Go.Proofs.Tryd.prog G 12 [] H fun r H' => H' = H ∧ r = .bool true := by
  refine Call2.free (fun x hx => by cases hx) ?_ H
  have ht := stake_ct G hG ⟨1, 9, 4096, 5, [], [], []⟩ exM (by decide)
  rw [shown_take] at ht
  refine stCall2 Go.Proofs.Tryd.func12 rfl (by decide) ?_
  conv => whnf
  refine Call2.mono (sbegin_ct G 9 4096 5 _) fun r0 H0 h => ?_
  obtain ⟨h1, h2⟩ := h
  rw [h1, h2]
  clear h1 h2 r0 H0
  conv => whnf
  refine Call2.mono (sgreet_ct G ⟨0, 9, 4096, 5, [], [], []⟩ _) fun r0 H0 h => ?_
  obtain ⟨h1, h2⟩ := h
  rw [h1, h2]
  clear h1 h2 r0 H0
  conv => whnf
  intro hw
  refine wpc_drawG2 [13, 14] [] [] (by rfl) (by kernel_rfl) (by kernel_rfl) hw ?_
  conv => whnf
  refine ⟨_, fun X _ => sempty_ct G _, ?_⟩
  conv => whnf
  refine ⟨_, fun X _ => Call2.weakA (args' := [.agg (hcells ⟨1, 9, 4096, 5, [], [], []⟩), .agg (mcells exM)]) (.cons (.free (hcells_free _)) (.cons (vw_met exM.2.2 rfl) .nil)) (ht _), ?_⟩
  conv => whnf
  exact ⟨.im _, rfl⟩

/-! ### what Take does -/
theorem isC_cls {m : Met} {a : Int} (h : isC m a = true) : m.1 = 10 ∧ m.2.1 = a := by
  unfold isC at h
  simpa using h
theorem isC_ne {m : Met} {a b : Int} (h : isC m a = true) (hab : a ≠ b) : isC m b = false := by
  have := isC_cls h
  unfold isC
  rw [this.1, this.2]
  simpa using hab

theorem ends_law {h : Hand} {m : Met} {k : Hand} {l : List Met} {e : Int} (hx : sEnds h m = (k, l, e)) :
    (isC m 50 = true ∧ k = { h with st := 6 } ∧ l = [ok51] ∧ e = 0) ∨ (isC m 50 = false ∧ k = h ∧ l = [] ∧ e = 8) := by
  unfold sEnds at hx
  split at hx
  · rename_i h1
    cases hx
    exact .inl ⟨h1, rfl, rfl, rfl⟩
  · rename_i h1
    cases hx
    exact .inr ⟨by simpa using h1, rfl, rfl, rfl⟩

theorem take_law {h : Hand} {m : Met} {k : Hand} {l : List Met} {e : Int} (hx : sTake h m = (k, l, e)) (h1 : ¬ h.st < 1) (h4 : ¬ h.st > 4) :
    (e = 7 ∧ k = h ∧ l = []) ∨ (isC m 50 = true ∧ k = { h with st := 6 } ∧ l = [ok51] ∧ e = 0) ∨
    (isC m 50 = false ∧ h.st ≠ 4 ∧ m.1 = 10 ∧ e = 0 ∧ k.st = h.st + 1) ∨ (isC m 50 = false ∧ k = h ∧ l = [] ∧ e = 8) ∨ (isC m 50 = false ∧ m.1 = 10 ∧ h.st ≠ 4 ∧ k = h ∧ l = [] ∧ e = 14) := by
  by_cases hr : mright tbv m ≠ 0
  · rw [sTake_bad hr] at hx
    cases hx
    exact .inl ⟨rfl, rfl, rfl⟩
  have hst : h.st = 1 ∨ h.st = 2 ∨ h.st = 3 ∨ h.st = 4 := by omega
  rcases hst with hs | hs | hs | hs
  · rw [sTake_1 hr hs] at hx
    unfold sStart at hx
    split at hx
    · rename_i hc
      have h50 := isC_ne hc (b := 50) (by decide)
      have hcl := (isC_cls hc).1
      split at hx
      · cases hx
        exact .inr (.inr (.inr (.inr ⟨h50, hcl, by omega, rfl, rfl, rfl⟩)))
      · split at hx
        · cases hx
          exact .inr (.inr (.inl ⟨h50, by omega, hcl, rfl, by simp only; omega⟩))
        · cases hx
          exact .inl ⟨rfl, rfl, rfl⟩
    · rcases ends_law hx with h | h
      · exact .inr (.inl h)
      · exact .inr (.inr (.inr (.inl h)))
  · rw [sTake_2 hr hs] at hx
    unfold sTune at hx
    split at hx
    · rename_i hc
      have h50 := isC_ne hc (b := 50) (by decide)
      have hcl := (isC_cls hc).1
      split at hx
      · cases hx
        exact .inr (.inr (.inr (.inr ⟨h50, hcl, by omega, rfl, rfl, rfl⟩)))
      · cases hx
        exact .inr (.inr (.inl ⟨h50, by omega, hcl, rfl, by simp only; omega⟩))
    · rcases ends_law hx with h | h
      · exact .inr (.inl h)
      · exact .inr (.inr (.inr (.inl h)))
  · rw [sTake_3 hr hs] at hx
    unfold sOpen at hx
    split at hx
    · rename_i hc
      have h50 := isC_ne hc (b := 50) (by decide)
      have hcl := (isC_cls hc).1
      cases hx
      exact .inr (.inr (.inl ⟨h50, by omega, hcl, rfl, by simp only; omega⟩))
    · rcases ends_law hx with h | h
      · exact .inr (.inl h)
      · exact .inr (.inr (.inr (.inl h)))
  · rw [sTake_4 hr hs] at hx
    rcases ends_law hx with h | h
    · exact .inr (.inl h)
    · exact .inr (.inr (.inr (.inl h)))

theorem take_out {h : Hand} {m : Met} (hs : h.st < 0 ∨ 7 ≤ h.st ∨ h.st = 0) : sTake h m = (h, [], if mright tbv m ≠ 0 then 7 else 8) := by
  unfold sTake
  by_cases hr : mright tbv m ≠ 0
  · rw [if_pos hr, if_pos hr]
  · rw [if_neg hr, if_neg hr]
    by_cases h0 : h.st < 0
    · rw [if_pos h0]
    · rw [if_neg h0]
      by_cases h7 : 7 ≤ h.st
      · rw [if_pos h7]
      · rw [if_neg h7, if_pos (by omega)]

theorem closing_law {h : Hand} {m : Met} (hs : h.st = 5 ∨ h.st = 6) : (sTake h m = (h, [], 7)) ∨ (mright tbv m = 0 ∧
    ((isC m 51 = true ∧ h.st = 5 ∧ sTake h m = ({ h with st := 6 }, [], 0)) ∨ (isC m 50 = true ∧ h.st = 5 ∧ sTake h m = (h, [ok51], 0)) ∨ sTake h m = (h, [], 0))) := by
  by_cases hr : mright tbv m ≠ 0
  · exact .inl (sTake_bad hr)
  · refine .inr ⟨by simpa using hr, ?_⟩
    rcases hs with hs | hs
    · rw [sTake_5 hr hs]
      unfold sClosing
      cases h51 : isC m 51
      · rw [if_neg (by simp)]
        cases h50 : isC m 50
        · rw [if_neg (by simp)]; exact .inr (.inr rfl)
        · rw [if_pos rfl]; exact .inr (.inl ⟨rfl, hs, rfl⟩)
      · rw [if_pos rfl]; exact .inl ⟨rfl, hs, rfl⟩
    · rw [sTake_6 hr hs]; exact .inr (.inr rfl)

/-- Who it is, and where to. -/
theorem names_law {h : Hand} {m : Met} {k : Hand} {l : List Met} {e : Int} (hx : sTake h m = (k, l, e)) :
    ((k.us = h.us ∧ k.wd = h.wd) ∨ h.st = 1) ∧ (k.ho = h.ho ∨ h.st = 3) ∧ ((k.ch = h.ch ∧ k.fr = h.fr ∧ k.bt = h.bt) ∨ h.st = 2) := by
  by_cases h14 : h.st < 1 ∨ h.st > 4
  · by_cases h56 : h.st = 5 ∨ h.st = 6
    · rcases closing_law (m := m) h56 with h | ⟨_, ⟨_, _, h⟩ | ⟨_, _, h⟩ | h⟩ <;> (rw [h] at hx; cases hx; exact ⟨.inl ⟨rfl, rfl⟩, .inl rfl, .inl ⟨rfl, rfl, rfl⟩⟩)
    · rw [take_out (by omega)] at hx
      cases hx
      exact ⟨.inl ⟨rfl, rfl⟩, .inl rfl, .inl ⟨rfl, rfl, rfl⟩⟩
  · by_cases hr : mright tbv m ≠ 0
    · rw [sTake_bad hr] at hx
      cases hx
      exact ⟨.inl ⟨rfl, rfl⟩, .inl rfl, .inl ⟨rfl, rfl, rfl⟩⟩
    have ends : ∀ {k l e}, sEnds h m = (k, l, e) → ((k.us = h.us ∧ k.wd = h.wd) ∨ h.st = 1) ∧ (k.ho = h.ho ∨ h.st = 3) ∧ ((k.ch = h.ch ∧ k.fr = h.fr ∧ k.bt = h.bt) ∨ h.st = 2) := by
      intro k l e hx
      rcases ends_law hx with ⟨_, rfl, _⟩ | ⟨_, rfl, _⟩ <;> exact ⟨.inl ⟨rfl, rfl⟩, .inl rfl, .inl ⟨rfl, rfl, rfl⟩⟩
    have hst : h.st = 1 ∨ h.st = 2 ∨ h.st = 3 ∨ h.st = 4 := by omega
    rcases hst with hs | hs | hs | hs
    · rw [sTake_1 hr hs] at hx
      unfold sStart at hx
      split at hx
      · split at hx
        · cases hx; exact ⟨.inr hs, .inl rfl, .inl ⟨rfl, rfl, rfl⟩⟩
        · split at hx <;> (cases hx; exact ⟨.inr hs, .inl rfl, .inl ⟨rfl, rfl, rfl⟩⟩)
      · exact ends hx
    · rw [sTake_2 hr hs] at hx
      unfold sTune at hx
      split at hx
      · split at hx <;> (cases hx; exact ⟨.inl ⟨rfl, rfl⟩, .inl rfl, .inr hs⟩)
      · exact ends hx
    · rw [sTake_3 hr hs] at hx
      unfold sOpen at hx
      split at hx
      · cases hx; exact ⟨.inl ⟨rfl, rfl⟩, .inr hs, .inl ⟨rfl, rfl, rfl⟩⟩
      · exact ends hx
    · rw [sTake_4 hr hs] at hx
      exact ends hx
end Go.Abs.Sig

/-! SV9 -/
namespace Go.Abs.Sig
open Go.RowKit Go.Abs
set_option linter.unusedSimpArgs false
set_option linter.unusedVariables false
set_option maxRecDepth 8000
attribute [local irreducible] StCall StYield WPc Weak IterOf Lp2

theorem hm_free (h : Hand) (m : Met) : ∀ x ∈ [V.agg (hcells h), .agg (mcells m)], x.Free := fun x hx => by
  simp only [List.mem_cons, List.not_mem_nil, or_false] at hx
  rcases hx with rfl | rfl
  · exact hcells_free _
  · exact mcells_free _

theorem serveWrong_ct (G : Nat → Option (List V)) (hG : G 4 = some wV) (h : Hand) (m : Met) (hm : ∀ v ∈ m.2.2, v.2.length ≤ maxStr) (H : Heap) : Call2 Go.Proofs.Tryd.prog G 5 [.agg (hcells h), .agg (mcells m)] H fun r H' => H' = H ∧ r = .bool true := by
  refine Call2.free (hm_free h m) ?_ H
  have ht := stake_ct G hG h m hm
  have hp := fun k l e => take_law (h := h) (m := m) (k := k) (l := l) (e := e)
  generalize sTake h m = x at ht hp
  obtain ⟨k, l, e⟩ := x
  have hp := hp k l e rfl
  obtain ⟨c, i, args⟩ := m
  have h50 : isC (c, i, args) 50 = (decide (c = 10) && decide (i = 50)) := rfl
  rw [h50] at hp
  refine stCall2 Go.Proofs.Tryd.func5 rfl (by decide) ?_
  conv => whnf
  refine Call2.mono (shown10_ct G hG _) fun r0 H0 h => ?_
  obtain ⟨h1, h2⟩ := h
  rw [h1, h2]
  clear h1 h2 r0 H0
  conv => whnf
  refine Call2.mono (ht _) fun r0 H0 h => ?_
  obtain ⟨h1, h2⟩ := h
  rw [h1, h2]
  clear h1 h2 r0 H0
  conv => whnf
  by_cases h1 : h.st < 1
  · refine br_t (decide_eq_true h1) ?_
    conv => whnf
    exact ⟨.im _, rfl⟩
  refine br_f (decide_eq_false h1) ?_
  conv => whnf
  by_cases h4 : h.st > 4
  · refine br_t (decide_eq_true h4) ?_
    conv => whnf
    exact ⟨.im _, rfl⟩
  refine br_f (decide_eq_false h4) ?_
  conv => whnf
  by_cases h7 : e = 7
  · refine br_t (decide_eq_true h7) ?_
    conv => whnf
    exact ⟨.im _, rfl⟩
  refine br_f (decide_eq_false h7) ?_
  conv => whnf
  have hp := (hp h1 h4).resolve_left (fun h => h7 h.1)
  by_cases hc : c ≠ 10
  · have hp2 : k = h ∧ l = [] ∧ e = 8 := by
      rcases hp with ⟨h5, _⟩ | ⟨_, _, h5, _⟩ | ⟨_, h5⟩ | ⟨_, h5, _⟩
      · simp [hc] at h5
      · exact absurd h5 hc
      · exact h5
      · exact absurd h5 hc
    obtain ⟨rfl, rfl, rfl⟩ := hp2
    refine br_t (decide_eq_true hc) ?_
    conv => whnf
    refine EqT.eql eqT27 flat27 (eq27 k k) ?_
    rw [decide_eq_true rfl]
    conv => whnf
    exact ⟨.im _, rfl⟩
  have hc : c = 10 := by simpa using hc
  subst hc
  conv => whnf
  by_cases hi : i = 50
  · have hp2 : k = { h with st := 6 } ∧ l = [ok51] ∧ e = 0 := by
      rcases hp with ⟨_, h5⟩ | ⟨h5, _⟩ | ⟨h5, _⟩ | ⟨h5, _⟩
      · exact h5
      · simp [hi] at h5
      · simp [hi] at h5
      · simp [hi] at h5
    obtain ⟨rfl, rfl, rfl⟩ := hp2
    refine br_t (decide_eq_true hi) ?_
    conv => whnf
    exact ⟨.im _, rfl⟩
  refine br_f (decide_eq_false hi) ?_
  conv => whnf
  by_cases hr : h.st = 4
  · have hp2 : k = h ∧ e = 8 := by
      rcases hp with ⟨h5, _⟩ | ⟨_, h5, _⟩ | ⟨_, h5, _, h6⟩ | ⟨_, _, h5, _⟩
      · simp [hi] at h5
      · exact absurd hr h5
      · exact ⟨h5, h6⟩
      · exact absurd hr h5
    obtain ⟨rfl, rfl⟩ := hp2
    refine br_t (decide_eq_true hr) ?_
    conv => whnf
    refine EqT.eql eqT27 flat27 (eq27 k k) ?_
    rw [decide_eq_true rfl]
    conv => whnf
    exact ⟨.im _, rfl⟩
  refine br_f (decide_eq_false hr) ?_
  conv => whnf
  have hp2 : (e = 0 ∧ k.st = h.st + 1) ∨ (e ≠ 0 ∧ k = h) := by
    rcases hp with ⟨h5, _⟩ | ⟨_, _, _, h5⟩ | ⟨_, h5, _, h6⟩ | ⟨_, _, _, h5, _, h6⟩
    · simp [hi] at h5
    · exact .inl h5
    · exact .inr ⟨by omega, h5⟩
    · exact .inr ⟨by omega, h5⟩
  rcases hp2 with ⟨rfl, h5⟩ | ⟨h5, rfl⟩
  · conv => whnf
    have hw : IntKind.i64.wrap (h.st + 1) = h.st + 1 := wrap_i64 (by omega) (by omega)
    rw [hw, decide_eq_true h5]
    conv => whnf
    exact ⟨.im _, rfl⟩
  · refine br_f (decide_eq_false h5) ?_
    conv => whnf
    refine br_t (decide_eq_true h5) ?_
    conv => whnf
    refine EqT.eql eqT27 flat27 (eq27 k k) ?_
    rw [decide_eq_true rfl]
    conv => whnf
    exact ⟨.im _, rfl⟩

theorem serveNames_ct (G : Nat → Option (List V)) (hG : G 4 = some wV) (h : Hand) (m : Met) (hm : ∀ v ∈ m.2.2, v.2.length ≤ maxStr) (H : Heap) : Call2 Go.Proofs.Tryd.prog G 6 [.agg (hcells h), .agg (mcells m)] H fun r H' => H' = H ∧ r = .bool true := by
  refine Call2.free (hm_free h m) ?_ H
  have ht := stake_ct G hG h m hm
  have hp := fun k l e => names_law (h := h) (m := m) (k := k) (l := l) (e := e)
  generalize sTake h m = x at ht hp
  obtain ⟨k, l, e⟩ := x
  obtain ⟨p1, p2, p3⟩ := hp k l e rfl
  refine stCall2 Go.Proofs.Tryd.func6 rfl (by decide) ?_
  conv => whnf
  refine Call2.mono (shown10_ct G hG _) fun r0 H0 h => ?_
  obtain ⟨h1, h2⟩ := h
  rw [h1, h2]
  clear h1 h2 r0 H0
  conv => whnf
  refine Call2.mono (ht _) fun r0 H0 h => ?_
  obtain ⟨h1, h2⟩ := h
  rw [h1, h2]
  clear h1 h2 r0 H0
  conv => whnf
  by_cases he : e ≠ 0
  · refine br_t (decide_eq_true he) ?_
    conv => whnf
    exact ⟨.im _, rfl⟩
  refine br_f (decide_eq_false he) ?_
  conv => whnf
  have e1 : ∀ {p : Prop} [Decidable p], p → decide p = true := fun h => decide_eq_true h
  by_cases h1 : h.st = 1
  · have p2 := p2.resolve_right (by omega)
    have p3 := p3.resolve_right (by omega)
    cases a1 : decide (k.us = h.us)
    · conv => whnf
      rw [e1 h1]
      conv => whnf
      rw [e1 p2]
      conv => whnf
      refine EqT.eql eqT23 flat23 (eq23 k.ch k.fr k.bt h.ch h.fr h.bt) ?_
      rw [e1 p3]
      conv => whnf
      exact ⟨.im _, rfl⟩
    · conv => whnf
      cases a2 : decide (k.wd = h.wd)
      · conv => whnf
        rw [e1 h1]
        conv => whnf
        rw [e1 p2]
        conv => whnf
        refine EqT.eql eqT23 flat23 (eq23 k.ch k.fr k.bt h.ch h.fr h.bt) ?_
        rw [e1 p3]
        conv => whnf
        exact ⟨.im _, rfl⟩
      · conv => whnf
        rw [e1 p2]
        conv => whnf
        refine EqT.eql eqT23 flat23 (eq23 k.ch k.fr k.bt h.ch h.fr h.bt) ?_
        rw [e1 p3]
        conv => whnf
        exact ⟨.im _, rfl⟩
  · have p1 := p1.resolve_right h1
    rw [e1 p1.1]
    conv => whnf
    rw [e1 p1.2]
    conv => whnf
    by_cases h3 : h.st = 3
    · have p3 := p3.resolve_right (by omega)
      cases a1 : decide (k.ho = h.ho)
      · conv => whnf
        rw [e1 h3]
        conv => whnf
        refine EqT.eql eqT23 flat23 (eq23 k.ch k.fr k.bt h.ch h.fr h.bt) ?_
        rw [e1 p3]
        conv => whnf
        exact ⟨.im _, rfl⟩
      · conv => whnf
        refine EqT.eql eqT23 flat23 (eq23 k.ch k.fr k.bt h.ch h.fr h.bt) ?_
        rw [e1 p3]
        conv => whnf
        exact ⟨.im _, rfl⟩
    · have p2 := p2.resolve_right h3
      rw [e1 p2]
      conv => whnf
      by_cases h2 : h.st = 2
      · refine EqT.eql eqT23 flat23 (eq23 k.ch k.fr k.bt h.ch h.fr h.bt) ?_
        cases a1 : decide (k.ch = h.ch ∧ k.fr = h.fr ∧ k.bt = h.bt)
        · conv => whnf
          rw [e1 h2]
          conv => whnf
          exact ⟨.im _, rfl⟩
        · conv => whnf
          exact ⟨.im _, rfl⟩
      · have p3 := p3.resolve_right h2
        refine EqT.eql eqT23 flat23 (eq23 k.ch k.fr k.bt h.ch h.fr h.bt) ?_
        rw [e1 p3]
        conv => whnf
        exact ⟨.im _, rfl⟩
end Go.Abs.Sig

/-! SM10 -/
namespace Go.Abs.Sig
open Go.RowKit Go.Abs
set_option linter.unusedSimpArgs false
set_option linter.unusedVariables false
set_option maxRecDepth 8000
attribute [local irreducible] StCall StYield WPc Weak IterOf Lp2

theorem ents_text : ((zent :: ents).all fun r => decide (r.2.2.1.length ≤ 255)) = true := by decide +kernel
theorem ent_rng (e : Int) : 200 ≤ (entE e).2.1 ∧ (entE e).2.1 ≤ 541 ∧ (entE e).2.2.1.length ≤ 255 := by
  have hA := List.all_eq_true.1 ents_all _ (entE_mem e)
  simp only [Bool.and_eq_true, decide_eq_true_eq] at hA
  have hB := List.all_eq_true.1 ents_text _ (entE_mem e)
  simp only [decide_eq_true_eq] at hB
  exact ⟨hA.1.1.1, hA.1.1.2, hB⟩
set_option maxRecDepth 100000 in
theorem tab_rng : (tab.all fun r => decide (0 ≤ r.1) && decide (r.1 < 65536) && decide (0 ≤ r.2.1) && decide (r.2.1 < 65536)) = true := by decide
theorem at_key {c i : Int} (h : isAt c i = true) : (rowAt c i).1 = c ∧ (rowAt c i).2.1 = i := by
  unfold isAt at h
  unfold rowAt
  cases hf : tab.find? (pAt c i) with
  | none => rw [hf] at h; cases h
  | some r =>
    have := List.find?_some hf
    simp only [pAt, Bool.and_eq_true, decide_eq_true_eq] at this
    exact this
theorem at_rng {c i : Int} (h : isAt c i = true) : 0 ≤ c ∧ c < 65536 ∧ 0 ≤ i ∧ i < 65536 := by
  have h1 := List.all_eq_true.1 tab_rng _ (at_some h)
  simp only [Bool.and_eq_true, decide_eq_true_eq] at h1
  obtain ⟨k1, k2⟩ := at_key h
  rw [k1, k2] at h1
  omega
theorem or_zero {c i : Int} : 0 ≤ (if isAt c i then c else 0) ∧ (if isAt c i then c else 0) < 65536 ∧ 0 ≤ (if isAt c i then i else 0) ∧ (if isAt c i then i else 0) < 65536 := by
  cases h : isAt c i
  · simp
  · have := at_rng h
    simpa using this

theorem wr2_zero {a : Int} (h0 : 0 ≤ a) (h1 : a < 65536) : wr 2 (a, []) = 0 := by
  rw [wr2]
  have : decide (((a, []) : Val').1.fdiv (2 ^ 16) ≠ 0) = false := by
    rw [fdiv_pos h0 (by decide), decide_eq_false_iff_not]
    show ¬ 0 < a / 65536
    omega
  rw [this]
  rfl
theorem wt_zero {t : List UInt8} (h : t.length ≤ 255) : wt 255 (0, t) = 0 := by
  unfold wt
  have : decide ((((0, t) : Val').2.length : Int) > 255) = false := by
    rw [decide_eq_false_iff_not]
    show ¬ (t.length : Int) > 255
    omega
  rw [this]
  rfl
theorem vright_close (tb : Val' → Int) {a b d : Int} {t : List UInt8} (ha : 0 ≤ a ∧ a < 65536) (ht : t.length ≤ 255) (hb : 0 ≤ b ∧ b < 65536) (hd : 0 ≤ d ∧ d < 65536) : vright tb [115, 83, 115, 115] [(a, []), (0, t), (b, []), (d, [])] = 0 := by
  have e1 : ∀ {x : Int}, 0 ≤ x ∧ x < 65536 → rl tb 115 (x, []) = 0 := fun h => wr2_zero h.1 h.2
  have e2 : rl tb 83 (0, t) = 0 := wt_zero ht
  unfold vright
  rw [e1 ha]
  unfold vright
  rw [e2]
  unfold vright
  rw [e1 hb]
  unfold vright
  rw [e1 hd]
  rfl
theorem u64_id {n : Int} (h0 : 0 ≤ n) (h1 : n < 65536) : u64 n = n := wrap_u64 h0 (by omega)

theorem mright_close (tb : Val' → Int) (e c i : Int) : mright tb (closeM e c i) = 0 ∧ has2 (closeM e c i).1 (closeM e c i).2.1 = true ∧ (closeM e c i).2.2 = closeArgs e c i ∧ (¬ 84 ∈ (rowAt (closeM e c i).1 (closeM e c i).2.1).2.2.1) := by
  have hE := ent_rng e
  have hz := or_zero (c := c) (i := i)
  have hv : vright tb [115, 83, 115, 115] (closeArgs e c i) = 0 := by
    unfold closeArgs
    exact vright_close tb (by rw [u64_id (by omega) (by omega)]; omega) hE.2.2 (by rw [u64_id hz.1 hz.2.1]; omega) (by rw [u64_id hz.2.2.1 hz.2.2.2]; omega)
  have key : ∀ a b : Int, isAt a b = true → (rowAt a b).2.2.1 = [115, 83, 115, 115] → mright tb (a, b, closeArgs e c i) = 0 := fun a b h1 h2 => by
    unfold mright
    rw [show isAt (a, b, closeArgs e c i).1 (a, b, closeArgs e c i).2.1 = true from h1, show (rowAt (a, b, closeArgs e c i).1 (a, b, closeArgs e c i).2.1).2.2.1 = [115, 83, 115, 115] from h2]
    exact hv
  unfold closeM
  split
  · exact ⟨key 10 50 (by decide) (by decide), (show has2 10 50 = true from rfl), rfl, (show ¬ 84 ∈ (rowAt 10 50).2.2.1 by decide)⟩
  · exact ⟨key 20 40 (by decide) (by decide), (show has2 20 40 = true from rfl), rfl, (show ¬ 84 ∈ (rowAt 20 40).2.2.1 by decide)⟩
theorem close_rng (e c i : Int) : ∀ v ∈ (closeM e c i).2.2, Rng v := by
  rw [(mright_close (fun _ => 0) e c i).2.2.1]
  intro v hv
  have hE := ent_rng e
  have hz := or_zero (c := c) (i := i)
  simp only [closeArgs, List.mem_cons, List.not_mem_nil, or_false] at hv
  rcases hv with rfl | rfl | rfl | rfl
  · show 0 ≤ u64 _ ∧ u64 _ < _
    rw [u64_id (by omega) (by omega)]; omega
  · exact ⟨Int.le_refl 0, (by decide : (0 : Int) < 18446744073709551616)⟩
  · show 0 ≤ u64 _ ∧ u64 _ < _
    rw [u64_id hz.1 hz.2.1]; omega
  · show 0 ≤ u64 _ ∧ u64 _ < _
    rw [u64_id hz.2.2.1 hz.2.2.2]; omega

theorem closes_close (tb : Val' → Int) (e c i : Int) : ccloses tb (closeM e c i) = true := by
  unfold ccloses
  rw [(mright_close tb e c i).1, (mright_close tb e c i).2.1]
  rfl

theorem told_close (e c i : Int) : mTold (closeM e c i) = ((entE e).2.1, (entE e).2.2.1) := by
  have hE := ent_rng e
  unfold mTold
  rw [(mright_close (fun _ => 0) e c i).2.2.1]
  unfold closeArgs
  show (IntKind.i64.wrap (u64 (entE e).2.1), (entE e).2.2.1) = _
  rw [u64_id (by omega) (by omega), wrap_i64 (by omega) (by omega)]
theorem done_close (tb : Val' → Int) (e c i : Int) : mright tb (mDone (closeM e c i)) = 0 ∧ (¬ 84 ∈ (rowAt (mDone (closeM e c i)).1 (mDone (closeM e c i)).2.1).2.2.1) := by
  unfold closeM
  split
  · have h : mDone (10, 50, closeArgs e c i) = (10, 51, []) := rfl
    rw [h]
    refine ⟨?_, (show ¬ 84 ∈ (rowAt 10 51).2.2.1 by decide)⟩
    show (if !isAt 10 51 || decide (((rowAt 10 51).2.2.1.length : Int) ≠ (([] : List Val').length : Int)) then 7 else vright tb (rowAt 10 51).2.2.1 []) = 0
    rw [show isAt 10 51 = true from by decide, show (rowAt 10 51).2.2.1 = [] from by decide]
    rfl
  · have h : mDone (20, 40, closeArgs e c i) = (20, 41, []) := rfl
    rw [h]
    refine ⟨?_, (show ¬ 84 ∈ (rowAt 20 41).2.2.1 by decide)⟩
    show (if !isAt 20 41 || decide (((rowAt 20 41).2.2.1.length : Int) ≠ (([] : List Val').length : Int)) then 7 else vright tb (rowAt 20 41).2.2.1 []) = 0
    rw [show isAt 20 41 = true from by decide, show (rowAt 20 41).2.2.1 = [] from by decide]
    rfl
end Go.Abs.Sig

/-! SV10 -/
namespace Go.Abs.Sig
open Go.RowKit Go.Abs
set_option linter.unusedSimpArgs false
set_option linter.unusedVariables false
set_option maxRecDepth 8000
attribute [local irreducible] StCall StYield WPc Weak IterOf Lp2

theorem start_right : allR [startM] = true := by kernel_rfl
theorem start_ok : ∀ m ∈ [startM], MetOk m := by
  intro m hm
  obtain rfl := List.mem_singleton.1 hm
  unfold MetOk Rng
  decide

theorem serveGreets_ct (G : Nat → Option (List V)) (hG : G 4 = some wV) (h : Hand) (H : Heap) : Call2 Go.Proofs.Tryd.prog G 7 [.agg (hcells h)] H fun r H' => H' = H ∧ r = .bool true := by
  refine Call2.free (fun x hx => by
    simp only [List.mem_cons, List.not_mem_nil, or_false] at hx
    subst hx
    exact hcells_free _) ?_ H
  have hr := rrights_ct G [startM] start_ok (by decide)
  rw [start_right] at hr
  by_cases h0 : h.st ≠ 0
  · have e1 : sGreet h = (h, [], 8) := if_pos h0
    have hg := sgreet_ct G h
    rw [e1] at hg
    refine stCall2 Go.Proofs.Tryd.func7 rfl (by decide) ?_
    conv => whnf
    refine Call2.mono (shown10_ct G hG _) fun r0 H0 h => ?_
    obtain ⟨h1, h2⟩ := h
    rw [h1, h2]
    clear h1 h2 r0 H0
    conv => whnf
    refine Call2.mono (hg _) fun r0 H0 h => ?_
    obtain ⟨h1, h2⟩ := h
    rw [h1, h2]
    clear h1 h2 r0 H0
    conv => whnf
    refine Call2.mono (hg _) fun r0 H0 h => ?_
    obtain ⟨h1, h2⟩ := h
    rw [h1, h2]
    clear h1 h2 r0 H0
    conv => whnf
    refine br_t (decide_eq_true h0) ?_
    conv => whnf
    refine EqT.eql eqT27 flat27 (eq27 h h) ?_
    rw [decide_eq_true rfl]
    conv => whnf
    exact ⟨.im _, rfl⟩
  · have e1 : sGreet h = ({ h with st := 1 }, [startM], 0) := if_neg h0
    have e2 : sGreet { h with st := 1 } = ({ h with st := 1 }, [], 8) := if_pos (show (1 : Int) ≠ 0 by decide)
    have hg := sgreet_ct G h
    have hg2 := sgreet_ct G { h with st := 1 }
    rw [e1] at hg
    rw [e2] at hg2
    refine stCall2 Go.Proofs.Tryd.func7 rfl (by decide) ?_
    conv => whnf
    refine Call2.mono (shown10_ct G hG _) fun r0 H0 h => ?_
    obtain ⟨h1, h2⟩ := h
    rw [h1, h2]
    clear h1 h2 r0 H0
    conv => whnf
    refine Call2.mono (hg _) fun r0 H0 h => ?_
    obtain ⟨h1, h2⟩ := h
    rw [h1, h2]
    clear h1 h2 r0 H0
    conv => whnf
    refine Call2.mono (hg2 _) fun r0 H0 h => ?_
    obtain ⟨h1, h2⟩ := h
    rw [h1, h2]
    clear h1 h2 r0 H0
    conv => whnf
    refine br_f (decide_eq_false h0) ?_
    conv => whnf
    refine Call2.mono (hr _) fun r0 H0 h => ?_
    obtain ⟨h1, h2⟩ := h
    rw [h1, h2]
    clear h1 h2 r0 H0
    conv => whnf
    refine EqT.eql eqT23 flat23 (eq23 h.ch h.fr h.bt h.ch h.fr h.bt) ?_
    rw [decide_eq_true ⟨rfl, rfl, rfl⟩]
    conv => whnf
    exact ⟨.im _, rfl⟩

def shutM (e c i : Int) : Met := (10, 50, closeArgs e c i)
theorem shut_right (e c i : Int) : allR [shutM e c i] = true := by
  unfold allR shutM
  obtain ⟨h1, h2, h3⟩ := ent_rng e
  obtain ⟨h4, h5, h6, h7⟩ := or_zero (c := c) (i := i)
  have hv := vright_close tbv (a := u64 (entE e).2.1) (b := u64 (if isAt c i then c else 0)) (d := u64 (if isAt c i then i else 0)) (t := (entE e).2.2.1) (by rw [u64_id (by omega) (by omega)]; omega) h3 (by rw [u64_id h4 h5]; exact ⟨h4, h5⟩) (by rw [u64_id h6 h7]; exact ⟨h6, h7⟩)
  have : mright tbv (10, 50, closeArgs e c i) = 0 := hv
  simp [this]
theorem shut_ok (e c i : Int) : ∀ m ∈ [shutM e c i], MetOk m := by
  intro m hm
  obtain rfl := List.mem_singleton.1 hm
  obtain ⟨h1, h2, h3⟩ := ent_rng e
  obtain ⟨h4, h5, h6, h7⟩ := or_zero (c := c) (i := i)
  unfold MetOk shutM closeArgs
  simp only [List.mem_cons, List.not_mem_nil, or_false]
  refine ⟨?_, ?_⟩
  · rintro v (rfl | rfl | rfl | rfl)
    · unfold Rng; rw [u64_id (by omega) (by omega)]; omega
    · exact ⟨Int.le_refl _, by show (0 : Int) < _; omega⟩
    · unfold Rng; rw [u64_id h4 h5]; omega
    · unfold Rng; rw [u64_id h6 h7]; omega
  · unfold maxStr
    rintro v (rfl | rfl | rfl | rfl)
    · simp
    · show (entE e).2.2.1.length ≤ _; omega
    · simp
    · simp

def shCells (h : Hand) (e c i : Int) (m : Met) : List V := hcells h ++ [.int .i64 e, .int .i64 c, .int .i64 i] ++ mcells m
set_option maxHeartbeats 4000000 in
theorem serveShuts_ct (h : Hand) (e c i : Int) (m : Met) (hm : ∀ v ∈ m.2.2, v.2.length ≤ maxStr) (H : Heap) : Call2 Go.Proofs.Tryd.prog GC 8 [.agg (shCells h e c i m)] H fun r H' => H' = H ∧ r = .bool true := by
  refine Call2.free (fun x hx => by
    simp only [List.mem_cons, List.not_mem_nil, or_false] at hx
    subst hx
    refine .agg _ fun v hv => ?_
    simp only [shCells, List.mem_append, List.mem_cons, List.not_mem_nil, or_false] at hv
    rcases hv with (hv | rfl | rfl | rfl) | hv
    · exact hcells_free' _ v hv
    · exact .im _
    · exact .im _
    · exact .im _
    · exact mcells_free' _ v hv) ?_ H
  have hr := rrights_ct GC [shutM e c i] (shut_ok e c i) (by simp)
  rw [shut_right] at hr
  have ht := stake_ct GC GC4 { h with st := 5 } m hm
  have hp := closing_law (h := { h with st := 5 }) (m := m) (.inl rfl)
  have hs2 := sshut_ct { h with st := 5 } e c i
  have e2 : sShut { h with st := 5 } e c i = ({ h with st := 5 }, []) := if_pos (.inl rfl)
  rw [e2] at hs2
  have hs := sshut_ct h e c i
  obtain ⟨mc, mi, args⟩ := m
  refine stCall2 Go.Proofs.Tryd.func8 rfl (by decide) ?_
  conv => whnf
  refine Call2.mono (shown10_ct GC GC4 _) fun r0 H0 h => ?_
  obtain ⟨h1, h2⟩ := h
  rw [h1, h2]
  clear h1 h2 r0 H0
  conv => whnf
  by_cases h0 : h.st < 0
  · refine br_t (decide_eq_true h0) ?_
    conv => whnf
    exact ⟨.im _, rfl⟩
  refine br_f (decide_eq_false h0) ?_
  conv => whnf
  by_cases h4 : h.st > 4
  · refine br_t (decide_eq_true h4) ?_
    conv => whnf
    exact ⟨.im _, rfl⟩
  refine br_f (decide_eq_false h4) ?_
  have e1 : sShut h e c i = ({ h with st := 5 }, [shutM e c i]) := if_neg (by omega)
  rw [e1] at hs
  conv => whnf
  refine Call2.mono (hs _) fun r0 H0 h => ?_
  obtain ⟨h1, h2⟩ := h
  rw [h1, h2]
  clear h1 h2 r0 H0
  conv => whnf
  refine Call2.mono (hs2 _) fun r0 H0 h => ?_
  obtain ⟨h1, h2⟩ := h
  rw [h1, h2]
  clear h1 h2 r0 H0
  conv => whnf
  rcases hp with hp | ⟨_, ⟨h51, _, hp⟩ | ⟨h50, _, hp⟩ | hp⟩
  · rw [hp] at ht
    refine Call2.mono (ht _) fun r0 H0 h => ?_
    obtain ⟨h1, h2⟩ := h
    rw [h1, h2]
    clear h1 h2 r0 H0
    conv => whnf
    refine EqT.neq eqT27 flat27 (eq27 { h with st := 5 } { h with st := 5 }) ?_
    rw [decide_eq_true rfl]
    conv => whnf
    cases a1 : decide (mc = 10)
    · conv => whnf
      refine Call2.mono (hr _) fun r0 H0 h => ?_
      obtain ⟨h1, h2⟩ := h
      rw [h1, h2]
      clear h1 h2 r0 H0
      conv => whnf
      exact ⟨.im _, rfl⟩
    · conv => whnf
      cases a2 : decide (mi = 50)
      · conv => whnf
        conv => whnf
        refine Call2.mono (hr _) fun r0 H0 h => ?_
        obtain ⟨h1, h2⟩ := h
        rw [h1, h2]
        clear h1 h2 r0 H0
        conv => whnf
        exact ⟨.im _, rfl⟩
      · conv => whnf
        refine Call2.mono (hr _) fun r0 H0 h => ?_
        obtain ⟨h1, h2⟩ := h
        rw [h1, h2]
        clear h1 h2 r0 H0
        conv => whnf
        exact ⟨.im _, rfl⟩
  · rw [hp] at ht
    obtain ⟨rfl, rfl⟩ := isC_cls h51
    refine Call2.mono (ht _) fun r0 H0 h => ?_
    obtain ⟨h1, h2⟩ := h
    rw [h1, h2]
    clear h1 h2 r0 H0
    conv => whnf
    refine EqT.neq eqT27 flat27 (eq27 { h with st := 5 } { h with st := 5 }) ?_
    rw [decide_eq_true rfl]
    conv => whnf
    refine Call2.mono (hr _) fun r0 H0 h => ?_
    obtain ⟨h1, h2⟩ := h
    rw [h1, h2]
    clear h1 h2 r0 H0
    conv => whnf
    exact ⟨.im _, rfl⟩
  · rw [hp] at ht
    obtain ⟨rfl, rfl⟩ := isC_cls h50
    refine Call2.mono (ht _) fun r0 H0 h => ?_
    obtain ⟨h1, h2⟩ := h
    rw [h1, h2]
    clear h1 h2 r0 H0
    conv => whnf
    refine EqT.neq eqT27 flat27 (eq27 { h with st := 5 } { h with st := 5 }) ?_
    rw [decide_eq_true rfl]
    conv => whnf
    refine Call2.mono (hr _) fun r0 H0 h => ?_
    obtain ⟨h1, h2⟩ := h
    rw [h1, h2]
    clear h1 h2 r0 H0
    conv => whnf
    exact ⟨.im _, rfl⟩
  · rw [hp] at ht
    refine Call2.mono (ht _) fun r0 H0 h => ?_
    obtain ⟨h1, h2⟩ := h
    rw [h1, h2]
    clear h1 h2 r0 H0
    conv => whnf
    refine EqT.neq eqT27 flat27 (eq27 { h with st := 5 } { h with st := 5 }) ?_
    rw [decide_eq_true rfl]
    conv => whnf
    cases a1 : decide (mc = 10)
    · conv => whnf
      refine Call2.mono (hr _) fun r0 H0 h => ?_
      obtain ⟨h1, h2⟩ := h
      rw [h1, h2]
      clear h1 h2 r0 H0
      conv => whnf
      refine EqT.eql eqT27 flat27 (eq27 { h with st := 5 } { h with st := 5 }) ?_
      rw [decide_eq_true rfl]
      conv => whnf
      exact ⟨.im _, rfl⟩
    · conv => whnf
      cases a2 : decide (mi = 50)
      · conv => whnf
        cases a3 : decide (mi = 51)
        · conv => whnf
          refine Call2.mono (hr _) fun r0 H0 h => ?_
          obtain ⟨h1, h2⟩ := h
          rw [h1, h2]
          clear h1 h2 r0 H0
          conv => whnf
          refine EqT.eql eqT27 flat27 (eq27 { h with st := 5 } { h with st := 5 }) ?_
          rw [decide_eq_true rfl]
          conv => whnf
          exact ⟨.im _, rfl⟩
        · conv => whnf
          refine Call2.mono (hr _) fun r0 H0 h => ?_
          obtain ⟨h1, h2⟩ := h
          rw [h1, h2]
          clear h1 h2 r0 H0
          conv => whnf
          exact ⟨.im _, rfl⟩
      · conv => whnf
        refine Call2.mono (hr _) fun r0 H0 h => ?_
        obtain ⟨h1, h2⟩ := h
        rw [h1, h2]
        clear h1 h2 r0 H0
        conv => whnf
        exact ⟨.im _, rfl⟩
end Go.Abs.Sig

/-! SV11 -/
namespace Go.Abs.Sig
open Go.RowKit Go.Abs
set_option linter.unusedSimpArgs false
set_option linter.unusedVariables false
set_option maxRecDepth 8000

theorem wr_low {n : Nat} (hn : n = 2 ∨ n = 4) {a : Int} (h0 : 0 ≤ a) (h : a < 256 ^ n) : wr (n : Int) (a, []) = 0 := by
  have h1 : a.fdiv (2 ^ (8 * (n : Int)).toNat) = 0 := by
    rw [Int.fdiv_eq_ediv_of_nonneg _ (by rcases hn with rfl | rfl <;> decide)]
    rcases hn with rfl | rfl
    · show a / 65536 = 0
      omega
    · show a / 4294967296 = 0
      omega
  unfold wr
  rw [if_neg, if_neg (by simp)]
  rcases hn with rfl | rfl <;> simp_all
theorem wr_bd {n : Nat} (hn : n = 2 ∨ n = 4) {v : Val'} (hv : Rng v) (h : wr (n : Int) v = 0) : v.1 < 256 ^ n ∧ v.2 = [] := by
  unfold wr at h
  split at h
  · cases h
  · rename_i h1
    split at h
    · cases h
    · rename_i h2
      refine ⟨?_, by simpa using h2⟩
      obtain ⟨h3, h4⟩ := hv
      rcases hn with rfl | rfl
      · have h5 : ¬ (v.1.fdiv (2 ^ 16) ≠ 0) := by simpa using h1
        rw [Int.fdiv_eq_ediv_of_nonneg _ (by decide)] at h5
        omega
      · have h5 : ¬ (v.1.fdiv (2 ^ 32) ≠ 0) := by simpa using h1
        rw [Int.fdiv_eq_ediv_of_nonneg _ (by decide)] at h5
        omega

theorem sls_at {i : Int} (hi : i = 30 ∨ i = 31) : isAt 10 i = true ∧ (rowAt 10 i).2.2.1 = [115, 108, 115] := by
  rcases hi with rfl | rfl
  · exact ⟨by kernel_rfl, by kernel_rfl⟩
  · exact ⟨by kernel_rfl, by kernel_rfl⟩
theorem mright_sls {i : Int} (hi : i = 30 ∨ i = 31) {a b c : Int} (ha : 0 ≤ a ∧ a < 65536) (hb : 0 ≤ b ∧ b < 4294967296) (hc : 0 ≤ c ∧ c < 65536) : mright tbv (10, i, [(a, []), (b, []), (c, [])]) = 0 := by
  obtain ⟨h1, h2⟩ := sls_at hi
  rw [mright_zero]
  refine ⟨h1, by rw [h2]; rfl, ?_⟩
  have e1 : wr 2 (a, []) = 0 := wr_low (n := 2) (.inl rfl) ha.1 (by simpa using ha.2)
  have e2 : wr 4 (b, []) = 0 := wr_low (n := 4) (.inr rfl) hb.1 (by simpa using hb.2)
  have e3 : wr 2 (c, []) = 0 := wr_low (n := 2) (.inl rfl) hc.1 (by simpa using hc.2)
  show vright tbv (rowAt 10 i).2.2.1 [(a, []), (b, []), (c, [])] = 0
  rw [h2]
  simp [vright, rl, e1, e2, e3]
theorem mright_sls_bd {i : Int} (hi : i = 30 ∨ i = 31) {l : List Val'} (hl : ∀ v ∈ l, Rng v) (h : mright tbv (10, i, l) = 0) : ∃ x y z : Val', l = [x, y, z] ∧ (0 ≤ x.1 ∧ x.1 < 65536) ∧ (0 ≤ y.1 ∧ y.1 < 4294967296) ∧ (0 ≤ z.1 ∧ z.1 < 65536) := by
  obtain ⟨h1, h2⟩ := sls_at hi
  rw [mright_zero] at h
  obtain ⟨_, h3, h4⟩ := h
  change (rowAt 10 i).2.2.1.length = l.length at h3
  change vright tbv (rowAt 10 i).2.2.1 l = 0 at h4
  rw [h2] at h3 h4
  match l, h3, h4, hl with
  | [x, y, z], _, h4, hl =>
    refine ⟨x, y, z, rfl, ?_⟩
    have hx := hl x (by simp)
    have hy := hl y (by simp)
    have hz := hl z (by simp)
    unfold vright at h4
    split at h4
    · rename_i h5; exact absurd h4 h5
    rename_i h5
    unfold vright at h4
    split at h4
    · rename_i h6; exact absurd h4 h6
    rename_i h6
    unfold vright at h4
    split at h4
    · rename_i h7; exact absurd h4 h7
    rename_i h7
    have e5 := (wr_bd (n := 2) (.inl rfl) hx (by simpa [rl] using h5)).1
    have e6 := (wr_bd (n := 4) (.inr rfl) hy (by simpa [rl] using h6)).1
    have e7 := (wr_bd (n := 2) (.inl rfl) hz (by simpa [rl] using h7)).1
    exact ⟨⟨hx.1, by simpa using e5⟩, ⟨hy.1, by simpa using e6⟩, hz.1, by simpa using e7⟩

theorem tR_iff {a b c : Int} : tR a b c = true ↔ (1 ≤ a ∧ a ≤ 65535) ∧ (4096 ≤ b ∧ b ≤ 131072) ∧ 0 ≤ c ∧ c ≤ 65535 := by
  unfold tR inR
  simp [and_assoc]
theorem i64_id {n : Int} (h0 : 0 ≤ n) (h1 : n < 4294967296) : i64 n = n := wrap_i64 (by omega) (by omega)
theorem u64_id' {n : Int} (h0 : 0 ≤ n) (h1 : n < 4294967296) : u64 n = n := wrap_u64 h0 (by omega)

def tuneOk (c f b : Int) : Met := (10, 31, [(u64 c, []), (u64 f, []), (u64 b, [])])
theorem agrees_law {h : Hand} {c f b : Int} (hs : h.st = 2) (ht : tR h.ch h.fr h.bt = true) (hc : 0 ≤ c ∧ c ≤ 65535) (hf : 0 ≤ f ∧ f ≤ 2147483648) (hb : 0 ≤ b ∧ b ≤ 65535) :
    (sTake h (tuneOk c f b) = (h, [], 14) ∧ (c > h.ch ∨ f > h.fr ∨ (f > 0 ∧ f < 4096))) ∨
    ∃ kc kf kb : Int, sTake h (tuneOk c f b) = ({ h with ch := kc, fr := kf, bt := kb, st := 3 }, [], 0) ∧ tR kc kf kb = true ∧ kc ≤ h.ch ∧ (c = 0 ∨ kc = c) ∧ kf ≤ h.fr ∧ (f = 0 ∨ kf = f) ∧ kb ≤ b ∧ kb ≤ h.bt ∧ (kb = b ∨ kb = h.bt) := by
  have hr : ¬ mright tbv (tuneOk c f b) ≠ 0 := by
    unfold tuneOk
    rw [u64_id' (n := c) (by omega) (by omega), u64_id' (n := f) (by omega) (by omega), u64_id' (n := b) (by omega) (by omega), mright_sls (.inr rfl) (by omega) (by omega) (by omega)]
    simp
  rw [sTake_2 hr hs]
  unfold sTune
  have h31 : isC (tuneOk c f b) 31 = true := rfl
  have a0 : i64 (argOf (tuneOk c f b) 0).1 = c := by
    show i64 (u64 c) = c
    rw [u64_id' (by omega) (by omega), i64_id (by omega) (by omega)]
  have a1 : i64 (argOf (tuneOk c f b) 1).1 = f := by
    show i64 (u64 f) = f
    rw [u64_id' (by omega) (by omega), i64_id (by omega) (by omega)]
  have a2 : i64 (argOf (tuneOk c f b) 2).1 = b := by
    show i64 (u64 b) = b
    rw [u64_id' (by omega) (by omega), i64_id (by omega) (by omega)]
  rw [if_pos h31, a0, a1, a2]
  rw [tR_iff] at ht
  by_cases hbad : c > h.ch ∨ f > h.fr ∨ (f ≠ 0 ∧ f < 4096)
  · rw [if_pos hbad]
    exact .inl ⟨rfl, by omega⟩
  · rw [if_neg hbad]
    refine .inr ⟨_, _, _, rfl, ?_⟩
    rw [tR_iff]
    refine ⟨⟨?_, ?_, ?_⟩, ?_, ?_, ?_, ?_, ?_, ?_, ?_⟩
    · split <;> omega
    · split <;> omega
    · split <;> omega
    · split <;> omega
    · split <;> omega
    · split <;> omega
    · split <;> omega
    · split <;> omega
    · split <;> omega
    · split <;> omega

theorem ok51_right : allR [ok51] = true := by kernel_rfl
theorem openM_right : allR [openM] = true := by kernel_rfl
theorem ok51_ok : ∀ m ∈ [ok51], MetOk m := by
  intro m hm
  obtain rfl := List.mem_singleton.1 hm
  unfold MetOk Rng
  decide
theorem openM_ok : ∀ m ∈ [openM], MetOk m := by
  intro m hm
  obtain rfl := List.mem_singleton.1 hm
  unfold MetOk Rng
  decide
theorem tuneM_right {h : Hand} (ht : tR h.ch h.fr h.bt = true) : allR [tuneM h] = true ∧ ∀ m ∈ [tuneM h], MetOk m := by
  rw [tR_iff] at ht
  unfold tuneM
  rw [u64_id' (n := h.ch) (by omega) (by omega), u64_id' (n := h.fr) (by omega) (by omega), u64_id' (n := h.bt) (by omega) (by omega)]
  refine ⟨?_, ?_⟩
  · unfold allR
    simp [mright_sls (i := 30) (.inl rfl) (a := h.ch) (b := h.fr) (c := h.bt) (by omega) (by omega) (by omega)]
  · intro m hm
    obtain rfl := List.mem_singleton.1 hm
    unfold MetOk Rng
    simp only [List.mem_cons, List.not_mem_nil, or_false]
    refine ⟨?_, ?_⟩
    · rintro v (rfl | rfl | rfl) <;> simp only <;> omega
    · rintro v (rfl | rfl | rfl) <;> simp

/-- What is kept of a connection. -/
def HandOk (h : Hand) : Prop := (1 ≤ h.st ∧ h.st ≤ 6) ∧ tR h.ch h.fr h.bt = true
theorem rises_law {h : Hand} (hh : HandOk h) {m : Met} (hm : MetOk m) {k : Hand} {l : List Met} {e : Int} (hx : sTake h m = (k, l, e)) :
    (allR l = true ∧ ∀ m ∈ l, MetOk m) ∧ h.st ≤ k.st ∧ (e ≠ 0 → k = h ∧ l = []) ∧ HandOk k := by
  obtain ⟨hs, ht⟩ := hh
  have nil : allR [] = true ∧ ∀ m ∈ ([] : List Met), MetOk m := ⟨rfl, fun m h => by cases h⟩
  have ends : ∀ {k l e}, sEnds h m = (k, l, e) → (allR l = true ∧ ∀ m ∈ l, MetOk m) ∧ h.st ≤ k.st ∧ (e ≠ 0 → k = h ∧ l = []) ∧ HandOk k := by
    intro k l e hx
    rcases ends_law hx with ⟨_, rfl, rfl, rfl⟩ | ⟨_, rfl, rfl, rfl⟩
    · exact ⟨⟨ok51_right, ok51_ok⟩, hs.2, fun h => absurd rfl h, ⟨by simp only; omega, ht⟩⟩
    · exact ⟨nil, Int.le_refl _, fun _ => ⟨rfl, rfl⟩, ⟨hs, ht⟩⟩
  have same : ∀ e : Int, (allR ([] : List Met) = true ∧ ∀ m ∈ ([] : List Met), MetOk m) ∧ h.st ≤ h.st ∧ (e ≠ 0 → h = h ∧ ([] : List Met) = []) ∧ HandOk h := fun e => ⟨nil, Int.le_refl _, fun _ => ⟨rfl, rfl⟩, ⟨hs, ht⟩⟩
  by_cases h56 : h.st = 5 ∨ h.st = 6
  · rcases closing_law (m := m) h56 with h1 | ⟨_, ⟨_, h5, h1⟩ | ⟨_, h5, h1⟩ | h1⟩ <;> (rw [h1] at hx; cases hx)
    · exact same _
    · exact ⟨nil, hs.2, fun h => absurd rfl h, ⟨by simp only; omega, ht⟩⟩
    · exact ⟨⟨ok51_right, ok51_ok⟩, Int.le_refl _, fun h => absurd rfl h, ⟨hs, ht⟩⟩
    · exact same _
  by_cases hr : mright tbv m ≠ 0
  · rw [sTake_bad hr] at hx
    cases hx
    exact same _
  have hst : h.st = 1 ∨ h.st = 2 ∨ h.st = 3 ∨ h.st = 4 := by omega
  rcases hst with h1 | h1 | h1 | h1
  · rw [sTake_1 hr h1] at hx
    unfold sStart at hx
    split at hx
    · split at hx
      · cases hx; exact same _
      · split at hx
        · cases hx
          exact ⟨tuneM_right ht, by simp only; omega, fun h => absurd rfl h, ⟨by simp only; omega, ht⟩⟩
        · cases hx; exact same _
    · exact ends hx
  · rw [sTake_2 hr h1] at hx
    unfold sTune at hx
    split at hx
    · rename_i hc
      obtain ⟨c, i, args⟩ := m
      obtain ⟨rfl, rfl⟩ := isC_cls hc
      obtain ⟨x, y, z, hl, hx0, hy0, hz0⟩ := mright_sls_bd (.inr rfl) hm.1 (by simpa using hr)
      change args = [x, y, z] at hl
      subst hl
      have a0 : i64 (argOf (10, 31, [x, y, z]) 0).1 = x.1 := by
        show i64 x.1 = x.1
        exact i64_id hx0.1 (by omega)
      have a1 : i64 (argOf (10, 31, [x, y, z]) 1).1 = y.1 := by
        show i64 y.1 = y.1
        exact i64_id hy0.1 (by omega)
      have a2 : i64 (argOf (10, 31, [x, y, z]) 2).1 = z.1 := by
        show i64 z.1 = z.1
        exact i64_id hz0.1 (by omega)
      rw [a0, a1, a2] at hx
      split at hx
      · cases hx; exact same _
      · rename_i hbad
        rw [tR_iff] at ht
        cases hx
        refine ⟨nil, by simp only; omega, fun h => absurd rfl h, ⟨by simp only; omega, ?_⟩⟩
        rw [tR_iff]
        refine ⟨?_, ?_, ?_⟩
        · simp only; split <;> omega
        · simp only; split <;> omega
        · simp only; split <;> omega
    · exact ends hx
  · rw [sTake_3 hr h1] at hx
    unfold sOpen at hx
    split at hx
    · cases hx
      exact ⟨⟨openM_right, openM_ok⟩, by simp only; omega, fun h => absurd rfl h, ⟨by simp only; omega, ht⟩⟩
    · exact ends hx
  · rw [sTake_4 hr h1] at hx
    exact ends hx
end Go.Abs.Sig

/-! SV12 -/
namespace Go.Abs.Sig
open Go.RowKit Go.Abs
set_option linter.unusedSimpArgs false
set_option linter.unusedVariables false
set_option maxRecDepth 8000
attribute [local irreducible] StCall StYield WPc Weak IterOf Lp2

def agCells (h : Hand) (c f b : Int) : List V := hcells h ++ [.int .i64 c, .int .i64 f, .int .i64 b]
set_option maxHeartbeats 4000000 in
theorem serveAgrees_ct (G : Nat → Option (List V)) (hG : G 4 = some wV) (h : Hand) (c f b : Int) (H : Heap) : Call2 Go.Proofs.Tryd.prog G 4 [.agg (agCells h c f b)] H fun r H' => H' = H ∧ r = .bool true := by
  refine Call2.free (fun x hx => by
    simp only [List.mem_cons, List.not_mem_nil, or_false] at hx
    subst hx
    refine .agg _ fun v hv => ?_
    simp only [agCells, List.mem_append, List.mem_cons, List.not_mem_nil, or_false] at hv
    rcases hv with hv | rfl | rfl | rfl
    · exact hcells_free' _ v hv
    · exact .im _
    · exact .im _
    · exact .im _) ?_ H
  have hr := sright_ct G h.ch h.fr h.bt
  have ht := stake_ct G hG h (tuneOk c f b) (by
    intro v hv
    simp only [tuneOk, List.mem_cons, List.not_mem_nil, or_false] at hv
    rcases hv with rfl | rfl | rfl <;> simp)
  refine stCall2 Go.Proofs.Tryd.func4 rfl (by decide) ?_
  conv => whnf
  refine Call2.mono (shown10_ct G hG _) fun r0 H0 h => ?_
  obtain ⟨h1, h2⟩ := h
  rw [h1, h2]
  clear h1 h2 r0 H0
  conv => whnf
  by_cases h2 : h.st ≠ 2
  · refine br_t (decide_eq_true h2) ?_
    conv => whnf
    exact ⟨.im _, rfl⟩
  refine br_f (decide_eq_false h2) ?_
  have h2 : h.st = 2 := by simpa using h2
  conv => whnf
  refine Call2.mono (hr _) fun r0 H0 h => ?_
  obtain ⟨h1, h2⟩ := h
  rw [h1, h2]
  clear h1 h2 r0 H0
  conv => whnf
  cases hT : tR h.ch h.fr h.bt
  · conv => whnf
    exact ⟨.im _, rfl⟩
  conv => whnf
  by_cases c0 : c < 0
  · refine br_t (decide_eq_true c0) ?_
    conv => whnf
    exact ⟨.im _, rfl⟩
  refine br_f (decide_eq_false c0) ?_
  conv => whnf
  by_cases c1 : c > 65535
  · refine br_t (decide_eq_true c1) ?_
    conv => whnf
    exact ⟨.im _, rfl⟩
  refine br_f (decide_eq_false c1) ?_
  conv => whnf
  by_cases f0 : f < 0
  · refine br_t (decide_eq_true f0) ?_
    conv => whnf
    exact ⟨.im _, rfl⟩
  refine br_f (decide_eq_false f0) ?_
  conv => whnf
  by_cases f1 : f > 2147483648
  · refine br_t (decide_eq_true f1) ?_
    conv => whnf
    exact ⟨.im _, rfl⟩
  refine br_f (decide_eq_false f1) ?_
  conv => whnf
  by_cases b0 : b < 0
  · refine br_t (decide_eq_true b0) ?_
    conv => whnf
    exact ⟨.im _, rfl⟩
  refine br_f (decide_eq_false b0) ?_
  conv => whnf
  by_cases b1 : b > 65535
  · refine br_t (decide_eq_true b1) ?_
    conv => whnf
    exact ⟨.im _, rfl⟩
  refine br_f (decide_eq_false b1) ?_
  conv => whnf
  refine Call2.weakA (args' := [.agg (hcells h), .agg (mcells (tuneOk c f b))]) (.cons (.free (hcells_free _)) (.cons (vw_met (tuneOk c f b).2.2 rfl) .nil)) ?_
  rcases agrees_law (h := h) (c := c) (f := f) (b := b) h2 hT (by omega) (by omega) (by omega) with ⟨hx, hw⟩ | ⟨kc, kf, kb, hx, hk, k1, k2, k3, k4, k5, k6, k7⟩
  · rw [hx] at ht
    refine Call2.mono (ht _) fun r0 H0 h => ?_
    obtain ⟨h1, h2⟩ := h
    rw [h1, h2]
    clear h1 h2 r0 H0
    conv => whnf
    by_cases w1 : c > h.ch
    · refine br_t (decide_eq_true w1) ?_
      conv => whnf
      exact ⟨.im _, rfl⟩
    refine br_f (decide_eq_false w1) ?_
    conv => whnf
    by_cases w2 : f > h.fr
    · refine br_t (decide_eq_true w2) ?_
      conv => whnf
      exact ⟨.im _, rfl⟩
    refine br_f (decide_eq_false w2) ?_
    conv => whnf
    refine br_t (decide_eq_true (by omega)) ?_
    conv => whnf
    rw [decide_eq_true (show f < 4096 by omega)]
    conv => whnf
    exact ⟨.im _, rfl⟩
  · rw [hx] at ht
    have hkr := sright_ct G kc kf kb
    rw [hk] at hkr
    refine Call2.mono (ht _) fun r0 H0 h => ?_
    obtain ⟨h1, h2⟩ := h
    rw [h1, h2]
    clear h1 h2 r0 H0
    conv => whnf
    refine Call2.mono (hkr _) fun r0 H0 h => ?_
    obtain ⟨h1, h2⟩ := h
    rw [h1, h2]
    clear h1 h2 r0 H0
    conv => whnf
    rw [decide_eq_true k1]
    conv => whnf
    have kk2 : ∀ {p q : Prop} [Decidable p] [Decidable q], p ∨ q → decide p = true ∨ (decide p = false ∧ decide q = true) := fun h => by
      rename_i p q _ _
      by_cases hp : p
      · exact .inl (decide_eq_true hp)
      · exact .inr ⟨decide_eq_false hp, decide_eq_true (h.resolve_left hp)⟩
    rcases kk2 k2 with e1 | ⟨e1, e2⟩
    · rw [e1]
      conv => whnf
      rw [decide_eq_true k3]
      conv => whnf
      rcases kk2 k4 with e3 | ⟨e3, e4⟩
      · rw [e3]
        conv => whnf
        rw [decide_eq_true k5]
        conv => whnf
        rw [decide_eq_true k6]
        conv => whnf
        rcases kk2 k7 with e5 | ⟨e5, e6⟩
        · rw [e5]
          conv => whnf
          exact ⟨.im _, rfl⟩
        · rw [e5]
          conv => whnf
          rw [e6]
          conv => whnf
          exact ⟨.im _, rfl⟩
      · rw [e3]
        conv => whnf
        rw [e4]
        conv => whnf
        rw [decide_eq_true k5]
        conv => whnf
        rw [decide_eq_true k6]
        conv => whnf
        rcases kk2 k7 with e5 | ⟨e5, e6⟩
        · rw [e5]
          conv => whnf
          exact ⟨.im _, rfl⟩
        · rw [e5]
          conv => whnf
          rw [e6]
          conv => whnf
          exact ⟨.im _, rfl⟩
    · rw [e1]
      conv => whnf
      rw [e2]
      conv => whnf
      rw [decide_eq_true k3]
      conv => whnf
      rcases kk2 k4 with e3 | ⟨e3, e4⟩
      · rw [e3]
        conv => whnf
        rw [decide_eq_true k5]
        conv => whnf
        rw [decide_eq_true k6]
        conv => whnf
        rcases kk2 k7 with e5 | ⟨e5, e6⟩
        · rw [e5]
          conv => whnf
          exact ⟨.im _, rfl⟩
        · rw [e5]
          conv => whnf
          rw [e6]
          conv => whnf
          exact ⟨.im _, rfl⟩
      · rw [e3]
        conv => whnf
        rw [e4]
        conv => whnf
        rw [decide_eq_true k5]
        conv => whnf
        rw [decide_eq_true k6]
        conv => whnf
        rcases kk2 k7 with e5 | ⟨e5, e6⟩
        · rw [e5]
          conv => whnf
          exact ⟨.im _, rfl⟩
        · rw [e5]
          conv => whnf
          rw [e6]
          conv => whnf
          exact ⟨.im _, rfl⟩
end Go.Abs.Sig

/-! SV13 -/
namespace Go.Abs.Sig
open Go.RowKit Go.Abs
set_option linter.unusedSimpArgs false
set_option linter.unusedVariables false
set_option maxRecDepth 8000
attribute [local irreducible] StCall StYield WPc Weak IterOf Lp2

def srS (ch fr bt : Int) (ms : List Met) (h : Hand) (j : Nat) : S2 :=
  headS 89 ([.bad, .dat 3 (mrows ms) .no, .bad, .bad, .bad, .im (.bool true), .ptr 1 0, .bad, .bad, .bad, .im (.bool true), .int .i64 (j : Int)] ++ List.replicate 77 .bad) [some (.cells 23 (tcells ch fr bt)), some (.cells 27 (hcells h))] [] none

theorem take_len (h : Hand) (m : Met) : (sTake h m).2.1.length ≤ 1 := by
  have ends : (sEnds h m).2.1.length ≤ 1 := by
    unfold sEnds
    by_cases h1 : isC m 50 = true
    · rw [if_pos h1]; exact Nat.le_refl _
    · rw [if_neg h1]; exact Nat.zero_le _
  by_cases hr : mright tbv m ≠ 0
  · rw [sTake_bad hr]; exact Nat.zero_le _
  by_cases h0 : h.st < 0 ∨ 7 ≤ h.st ∨ h.st = 0
  · rw [take_out h0]; exact Nat.zero_le _
  have hst : h.st = 1 ∨ h.st = 2 ∨ h.st = 3 ∨ h.st = 4 ∨ h.st = 5 ∨ h.st = 6 := by omega
  rcases hst with h1 | h1 | h1 | h1 | h1 | h1
  · rw [sTake_1 hr h1]
    unfold sStart
    by_cases h2 : isC m 11 = true
    · rw [if_pos h2]
      by_cases h3 : (argOf m 1).2 ≠ PLAIN
      · rw [if_pos h3]; exact Nat.zero_le _
      · rw [if_neg h3]
        by_cases h4 : (pairsF (argOf m 2).2).2.2 = true
        · rw [if_pos h4]; exact Nat.le_refl _
        · rw [if_neg h4]; exact Nat.zero_le _
    · rw [if_neg h2]; exact ends
  · rw [sTake_2 hr h1]
    unfold sTune
    by_cases h2 : isC m 31 = true
    · rw [if_pos h2]
      by_cases h3 : i64 (argOf m 0).1 > h.ch ∨ i64 (argOf m 1).1 > h.fr ∨ (i64 (argOf m 1).1 ≠ 0 ∧ i64 (argOf m 1).1 < 4096)
      · rw [if_pos h3]; exact Nat.zero_le _
      · rw [if_neg h3]; exact Nat.zero_le _
    · rw [if_neg h2]; exact ends
  · rw [sTake_3 hr h1]
    unfold sOpen
    by_cases h2 : isC m 40 = true
    · rw [if_pos h2]; exact Nat.le_refl _
    · rw [if_neg h2]; exact ends
  · rw [sTake_4 hr h1]; exact ends
  · rcases closing_law (m := m) (.inl h1) with h | ⟨_, ⟨_, _, h⟩ | ⟨_, _, h⟩ | h⟩ <;> (rw [h]; simp)
  · rcases closing_law (m := m) (.inr h1) with h | ⟨_, ⟨_, _, h⟩ | ⟨_, _, h⟩ | h⟩ <;> (rw [h]; simp)
set_option maxHeartbeats 4000000 in
theorem serveRises_ct (G : Nat → Option (List V)) (hG : G 4 = some wV) (ch fr bt : Int) (ms : List Met) (hms : ∀ m ∈ ms, MetOk m) (H : Heap) : Call2 Go.Proofs.Tryd.prog G 3 [.agg (tcells ch fr bt), .dat 3 (mrows ms) .no] H fun r H' => H' = H ∧ r = .bool true := by
  refine Call2.free (fun x hx => by
    simp only [List.mem_cons, List.not_mem_nil, or_false] at hx
    rcases hx with rfl | rfl
    · exact tcells_free _ _ _
    · exact mrows_free _) ?_ H
  have hml : (mrows ms).length = ms.length := by simp [mrows]
  have hb := sbegin_ct G ch fr bt
  have hrs := rrights_ct G [startM] start_ok (by decide)
  rw [start_right] at hrs
  unfold sBegin at hb
  refine stCall2 Go.Proofs.Tryd.func3 rfl (by decide) ?_
  conv => whnf
  refine Call2.mono (shown10_ct G hG _) fun r0 H0 h => ?_
  obtain ⟨h1, h2⟩ := h
  rw [h1, h2]
  clear h1 h2 r0 H0
  conv => whnf
  cases hT : tR ch fr bt
  · rw [hT, if_neg (by simp)] at hb
    refine Call2.mono (hb _) fun r0 H0 h => ?_
    obtain ⟨h1, h2⟩ := h
    rw [h1, h2]
    clear h1 h2 r0 H0
    conv => whnf
    exact ⟨.im _, rfl⟩
  rw [hT, if_pos rfl] at hb
  refine Call2.mono (hb _) fun r0 H0 h => ?_
  obtain ⟨h1, h2⟩ := h
  rw [h1, h2]
  clear h1 h2 r0 H0
  conv => whnf
  rw [hml]
  by_cases h60 : (ms.length : Int) > 60
  · refine br_t (decide_eq_true h60) ?_
    conv => whnf
    exact ⟨.im _, rfl⟩
  refine br_f (decide_eq_false h60) ?_
  conv => whnf
  refine Call2.mono (sgreet_ct G ⟨0, ch, fr, bt, [], [], []⟩ _) fun r0 H0 h => ?_
  obtain ⟨h1, h2⟩ := h
  rw [h1, h2]
  clear h1 h2 r0 H0
  conv => whnf
  refine Call2.mono (hrs _) fun r0 H0 h => ?_
  obtain ⟨h1, h2⟩ := h
  rw [h1, h2]
  clear h1 h2 r0 H0
  conv => whnf
  intro hw
  refine wpc_loop2 (fun n1 s1 => ∃ (j : Nat) (h : Hand), j ≤ ms.length ∧ n1 = ms.length - j ∧ s1 = srS ch fr bt ms h j ∧ HandOk h) ms.length (srS ch fr bt ms ⟨1, ch, fr, bt, [], [], []⟩ 0) ?_ ⟨0, _, by omega, rfl, rfl, ⟨Int.le_refl _, (show (1 : Int) ≤ 6 by decide)⟩, hT⟩ ?_ ?_
  · exact weak2 hw rfl ⟨.dat _ _ _, .im _, .ptr 1 0 (show 1 < 2 by decide), .im _, .im _, trivial⟩ (.cons (.free (tcells_free' ch fr bt)) (.cons (.free (hcells_free' ⟨1, ch, fr, bt, [], [], []⟩)) (.nil _))) (fun id hid => by cases hid) rfl (fun id hid => by cases hid)
  · rintro n1 s1 ⟨j, h, _, _, rfl, _⟩
    exact ⟨⟨Nat.le_refl 89, fun x hx => by cases hx⟩, rfl, Nat.le_refl _, rfl⟩
  · rintro n1 s1 ⟨j, h, hj, rfl, rfl, hok⟩
    by_cases hjl : j < ms.length
    · obtain ⟨m, hmj⟩ : ∃ m, ms[j]? = some m := ⟨_, List.getElem?_eq_getElem hjl⟩
      have hgj := mrows_get hmj
      have hgd : (true && true && decide ((0 : Int) ≤ (j : Int))) = true := by simp
      have hwj : IntKind.i64.wrap ((j : Int) + 1) = ((j + 1 : Nat) : Int) := by rw [wrap_i64 (by omega) (by omega)]; rfl
      have hmm := hms m (List.mem_of_getElem? hmj)
      have ht := stake_ct G hG h m hmm.2
      have hlaw := fun k l e => rises_law hok hmm (k := k) (l := l) (e := e)
      have hlen := take_len h m
      generalize sTake h m = x at ht hlaw hlen
      obtain ⟨k, l, e⟩ := x
      change l.length ≤ 1 at hlen
      obtain ⟨⟨p1, p2⟩, p3, p4, p5⟩ := hlaw k l e rfl
      have p6 : l.length ≤ 140737488355328 := by omega
      conv => whnf
      rw [hml]
      refine br_t (decide_eq_true (by omega)) ?_
      conv => whnf
      intro hwD
      refine wpc_drawG2 [10, 11] [] [] (by rfl) (by kernel_rfl) (by kernel_rfl) hwD ?_
      conv => whnf
      refine grd_intro hgd (optK_intro hgj ?_)
      conv => whnf
      refine ⟨_, fun X _ => ht _, ?_⟩
      conv => whnf
      have hrr := rrights_ct G l p2 p6
      rw [p1] at hrr
      refine Call2.mono (hrr _) fun r0 H0 h => ?_
      obtain ⟨h1, h2⟩ := h
      rw [h1, h2]
      clear h1 h2 r0 H0
      conv => whnf
      refine br_f (decide_eq_false (show ¬ k.st < h.st by omega)) ?_
      conv => whnf
      by_cases he : e ≠ 0
      · obtain ⟨rfl, rfl⟩ := p4 he
        refine br_t (decide_eq_true he) ?_
        conv => whnf
        refine EqT.neq eqT27 flat27 (eq27 k k) ?_
        rw [decide_eq_true rfl]
        conv => whnf
        intro hw2
        refine ⟨ms.length - (j + 1), srS ch fr bt ms k (j + 1), by omega, ?_, j + 1, k, by omega, rfl, rfl, p5⟩
        exact weak2 hw2 rfl ⟨.dat _ _ _, .im _, .ptr 1 0 (show 1 < 2 by decide), .im _, .int hwj, trivial⟩ (.cons (.free (tcells_free' ch fr bt)) (.cons (.free (hcells_free' k)) (.nil _))) (fun id hid => by cases hid) rfl (fun id hid => by cases hid)
      · refine br_f (decide_eq_false he) ?_
        conv => whnf
        intro hw2
        refine ⟨ms.length - (j + 1), srS ch fr bt ms k (j + 1), by omega, ?_, j + 1, k, by omega, rfl, rfl, p5⟩
        exact weak2 hw2 rfl ⟨.dat _ _ _, .im _, .ptr 1 0 (show 1 < 2 by decide), .im _, .int hwj, trivial⟩ (.cons (.free (tcells_free' ch fr bt)) (.cons (.free (hcells_free' k)) (.nil _))) (fun id hid => by cases hid) rfl (fun id hid => by cases hid)
    · have hje : j = ms.length := by omega
      conv => whnf
      rw [hml]
      refine br_f (decide_eq_false (by omega)) ?_
      conv => whnf
      refine Call2.mono (rright10_ct G h.ch h.fr h.bt _) fun r0 H0 h => ?_
      obtain ⟨h1, h2⟩ := h
      rw [h1, h2]
      clear h1 h2 r0 H0
      conv => whnf
      rw [hok.2]
      exact ⟨.im _, rfl⟩
end Go.Abs.Sig

/-! SVG -/
namespace Go.Abs.Sig
open Go.RowKit Go.Abs Go.ChangeShapes Go.WideShapes Go.ChangeAt
set_option linter.unusedSimpArgs false
set_option linter.unusedVariables false
set_option maxRecDepth 8000

def laidW : List (String × DataW Unit) := [("interchange/num.widths", Go.Proofs.YtfmankbemjcfeaaDoor.Rows.laid_interchange_num_widths)]
def wInts : List Int := [1, 2, 4, 8]
theorem laidW_eq : (Go.Proofs.YtfmankbemjcfeaaDoor.Rows.laid_interchange_num_widths : DataW Unit) = .agg (wInts.map fun n => .lit (.int .i64 n)) := rfl

theorem gW : Program.globalNamed Go.Proofs.Tryd.prog "interchange/num.widths" = some 4 := by kernel_rfl
theorem tW : (Go.Proofs.Tryd.prog.globals[4]?).map (·.type) = some 178 := by kernel_rfl
def GW (g : Nat) : Option (List V) := if g = 4 then some wV else none
theorem GW4 : GW 4 = some wV := rfl

theorem w_cells {enc : TypeId × Value → Unit} {W : World} {sp : Nat → Bool} {held : Bool} {b f0 : Nat} {l : List Value} {p0 : List MemPlace} (hd : DataW.trod enc Go.Proofs.Tryd.prog W b sp held f0 178 l = some (.agg (wInts.map fun n => .lit (.int .i64 n)), p0)) (i : Nat) (n : Int) (hr : wInts[i]? = some n) :
    l[i]? = some (.int .i64 n) := by
  have c3 : Program.cellsOf Go.Proofs.Tryd.prog 3 = 1 := by kernel_rfl
  obtain ⟨xs, m, _, hx, hlen, hn, hel⟩ := DataW.trod_array Go.Proofs.Tryd.underlying178 hd
  simp only [Prod.mk.injEq, DataW.agg.injEq] at hx
  have hi : i < 4 := (List.getElem?_eq_some_iff.1 hr).1
  have hxi : (xs.map (·.1))[i]? = some (.lit (.int .i64 n)) := by rw [← hx.1, List.getElem?_map, hr]; rfl
  rw [List.getElem?_map] at hxi
  obtain ⟨y, hy, hye⟩ := Option.map_eq_some_iff.1 hxi
  have he := hel i hi
  rw [c3, hy] at he
  obtain ⟨k1, g1, g1', _⟩ := DataW.trod_int Go.Proofs.Tryd.underlying3 he
  rw [g1'] at hye
  simp only [DataW.lit.injEq, Lit.int.injEq, true_and] at hye
  subst hye
  have h0 : ((l.drop (i * 1)).take 1)[0]? = some (.int .i64 k1) := by rw [g1]; rfl
  rw [List.getElem?_take_of_lt (by omega), List.getElem?_drop] at h0
  simpa using h0

theorem glob_GW {W : World} (h : laidMetH Go.Proofs.Tryd.prog laidW W) : ∀ g cs, GW g = some cs → Rep W (Env.all W) (.rp cs) (.pointer (some ⟨g, 0, none⟩)) := by
  intro g cs hg
  rw [MakeChecks.laidMetH_plain _ _ _ (by kernel_rfl)] at h
  obtain ⟨ps, ⟨g0, t0, cs0, f0, p0, q0, hg0, ht0, hv0, hd0, _, _⟩, _, _⟩ := h
  obtain rfl := Option.some.inj (gW.symm.trans hg0)
  obtain rfl := Option.some.inj (tW.symm.trans ht0)
  have hcell : ∀ j, W.cell? ⟨4, j, none⟩ = cs0[j]? := fun j => World.var?_cell hg0 hv0 j
  unfold GW at hg
  split at hg
  · rename_i h1
    subst h1
    obtain rfl : wV = cs := Option.some.inj hg
    refine rep_glob (fun j => (W.cell? ⟨4, j, none⟩).getD (.int .i64 0)) fun j v hv => ?_
    have hj : j < 4 := (List.getElem?_eq_some_iff.1 hv).1
    obtain ⟨n, hr⟩ : ∃ n, wInts[j]? = some n := ⟨_, List.getElem?_eq_getElem (by show j < 4; exact hj)⟩
    have c0 := w_cells hd0 j n hr
    have hv' : v = .int .i64 n := by
      have : wV = wInts.map fun n => V.int .i64 n := rfl
      rw [this, List.getElem?_map, hr] at hv
      exact (Option.some.inj hv).symm
    have hc : cs0[j]? = some (.int .i64 n) := by simpa using c0
    rw [hcell j, hc, hv']
    exact ⟨rfl, rfl⟩
  · cases hg

/-- The door's own heap meets the condition. -/
theorem doorW_met (os : Os) (args : Array Value) : laidMetH Go.Proofs.Tryd.prog laidW ((World.doorLaid Go.Proofs.Tryd.prog 400 os).forCall (fun _ _ => 0) ⟨#[], args, []⟩).memory :=
  laidMetH_of_parts3 (fuel := 8) (laidMet_of_run' 8 (by kernel_rfl) (by kernel_rfl)) (by kernel_rfl) (by kernel_rfl)

theorem drop_get {α : Type} {l : List α} {a o : Nat} {u : α} (ho : o < 4) (h : (((l.drop a).take 4).drop o).take 1 = [u]) : l[a + o]? = some u := by
  have h0 : ((((l.drop a).take 4).drop o).take 1)[0]? = some u := by rw [h]; rfl
  rw [List.getElem?_take_of_lt (by omega), List.getElem?_drop, List.getElem?_take_of_lt (by omega), List.getElem?_drop] at h0
  simpa using h0

def laidE : List (String × DataW Unit) := [("interchange/num.widths", Go.Proofs.YtfmankbemjcfeaaDoor.Rows.laid_interchange_num_widths), ("interchange/code.entries", Go.Proofs.YtfmankbemjcfeaaDoor.Rows.laid_interchange_code_entries)]
def entD (r : Ent) : DataW Unit := .agg [.lit (.int .i64 r.1), .lit (.int .i64 r.2.1), .lit (.string r.2.2.1), .lit (.bool r.2.2.2)]
theorem laid_eq : (Go.Proofs.YtfmankbemjcfeaaDoor.Rows.laid_interchange_code_entries : DataW Unit) = .agg (ents.map entD) := rfl

theorem ent_cells {enc : TypeId × Value → Unit} {W : World} {sp : Nat → Bool} {held : Bool} {b f0 : Nat} {l : List Value} {p0 : List MemPlace} (hd : DataW.trod enc Go.Proofs.Tryd.prog W b sp held f0 137 l = some (.agg (ents.map entD), p0)) (i : Nat) (r : Ent) (hr : ents[i]? = some r) :
    l[i * 4 + 0]? = some (.int .i64 r.1) ∧ l[i * 4 + 1]? = some (.int .i64 r.2.1) ∧ (∃ s : ByteArray, l[i * 4 + 2]? = some (.string s) ∧ s.data.toList = r.2.2.1) ∧ l[i * 4 + 3]? = some (.bool r.2.2.2) := by
  have c70 : Program.cellsOf Go.Proofs.Tryd.prog 123 = 4 := by kernel_rfl
  have c22 : Program.cellsOf Go.Proofs.Tryd.prog 28 = 1 := by kernel_rfl
  have c3 : Program.cellsOf Go.Proofs.Tryd.prog 3 = 1 := by kernel_rfl
  have c9 : Program.cellsOf Go.Proofs.Tryd.prog 9 = 1 := by kernel_rfl
  have c4 : Program.cellsOf Go.Proofs.Tryd.prog 4 = 1 := by kernel_rfl
  obtain ⟨xs, m, _, hx, hlen, hn, hel⟩ := DataW.trod_array Go.Proofs.Tryd.underlying137 hd
  simp only [Prod.mk.injEq, DataW.agg.injEq] at hx
  have hi : i < 12 := by
    have := (List.getElem?_eq_some_iff.1 hr).1
    rwa [ents_length] at this
  have hxi : (xs.map (·.1))[i]? = some (entD r) := by rw [← hx.1, List.getElem?_map, hr]; rfl
  rw [List.getElem?_map] at hxi
  obtain ⟨y, hy, hye⟩ := Option.map_eq_some_iff.1 hxi
  have he := hel i hi
  rw [c70, hy] at he
  obtain ⟨ys, n, _, hyy, _, hn2, hf⟩ := DataW.trod_struct Go.Proofs.Tryd.underlying123 he
  subst hyy
  simp only [entD, DataW.agg.injEq] at hye
  match ys, hn2, hye with
  | [y0, y1, y2, y3], _, hye =>
    simp only [List.map_cons, List.map_nil, List.cons.injEq, and_true] at hye
    obtain ⟨e0, e1, e2, e3⟩ := hye
    obtain ⟨k0, g0, g0', _⟩ := DataW.trod_int Go.Proofs.Tryd.underlying28 (hf 0 _ rfl)
    obtain ⟨k1, g1, g1', _⟩ := DataW.trod_int Go.Proofs.Tryd.underlying3 (hf 1 _ rfl)
    obtain ⟨k2, g2, g2', _⟩ := DataW.trod_string Go.Proofs.Tryd.underlying9 (hf 2 _ rfl)
    obtain ⟨k3, g3, g3'⟩ := DataW.trod_bool Go.Proofs.Tryd.underlying4 (hf 3 _ rfl)
    rw [g0'] at e0
    rw [g1'] at e1
    rw [g2'] at e2
    rw [g3'] at e3
    simp only [DataW.lit.injEq, Lit.int.injEq, Lit.string.injEq, Lit.bool.injEq, true_and] at e0 e1 e2 e3
    subst e0
    subst e1
    subst e3
    exact ⟨drop_get (by decide) g0, drop_get (by decide) g1, ⟨k2, drop_get (by decide) g2, e2⟩, drop_get (by decide) g3⟩

theorem gE : Program.globalNamed Go.Proofs.Tryd.prog "interchange/code.entries" = some 0 := by kernel_rfl
theorem tE : (Go.Proofs.Tryd.prog.globals[0]?).map (·.type) = some 137 := by kernel_rfl

theorem glob_GC {W : World} (h : laidMetH Go.Proofs.Tryd.prog laidE W) : ∀ g cs, GC g = some cs → Rep W (Env.all W) (.rp cs) (.pointer (some ⟨g, 0, none⟩)) := by
  intro g cs hg
  rw [MakeChecks.laidMetH_plain _ _ _ (by kernel_rfl)] at h
  obtain ⟨ps, ⟨g1, t1, cs1, f1, p1, q1, hg1, ht1, hv1, hd1, ⟨g0, t0, cs0, f0, p0, q0, hg0, ht0, hv0, hd0, _, _⟩, _⟩, _, _⟩ := h
  obtain rfl := Option.some.inj (gW.symm.trans hg1)
  obtain rfl := Option.some.inj (tW.symm.trans ht1)
  obtain rfl := Option.some.inj (gE.symm.trans hg0)
  obtain rfl := Option.some.inj (tE.symm.trans ht0)
  have hcell : ∀ j, W.cell? ⟨0, j, none⟩ = cs0[j]? := fun j => World.var?_cell hg0 hv0 j
  match g, hg with
  | 0, hg =>
    obtain rfl : entsV = cs := Option.some.inj hg
    refine rep_glob (fun j => (W.cell? ⟨0, j, none⟩).getD (.int .i64 0)) fun j v hv => ?_
    have hj : j < 48 := (List.getElem?_eq_some_iff.1 hv).1
    obtain ⟨r, hr⟩ : ∃ r, ents[j / 4]? = some r := ⟨_, List.getElem?_eq_getElem (by rw [ents_length]; omega)⟩
    obtain ⟨rest, hrest⟩ := ents_drop (j / 4) r hr
    have hjm : j = j / 4 * 4 + j % 4 := by omega
    have hv' : (ecells r)[j % 4]? = some v := by
      have h1 : (entsV.drop (j / 4 * 4))[j % 4]? = some v := by rw [List.getElem?_drop, ← hjm]; exact hv
      rw [hrest, List.getElem?_append_left (by show j % 4 < 4; omega)] at h1
      exact h1
    obtain ⟨c0, c1, ⟨s, c2, c2'⟩, c3⟩ := ent_cells hd0 (j / 4) r hr
    have key : ∃ u, cs0[j]? = some u ∧ plainV u = some v := by
      rw [hjm]
      have hm : j % 4 = 0 ∨ j % 4 = 1 ∨ j % 4 = 2 ∨ j % 4 = 3 := by omega
      rcases hm with hm | hm | hm | hm
      · rw [hm] at hv' ⊢
        exact ⟨.int .i64 r.1, by simpa using c0, hv'⟩
      · rw [hm] at hv' ⊢
        exact ⟨.int .i64 r.2.1, by simpa using c1, hv'⟩
      · rw [hm] at hv' ⊢
        refine ⟨.string s, by simpa using c2, ?_⟩
        show some (V.str s.data.toList) = some v
        rw [c2']
        exact hv'
      · rw [hm] at hv' ⊢
        exact ⟨.bool r.2.2.2, by simpa using c3, hv'⟩
    obtain ⟨u, hu1, hu2⟩ := key
    rw [hcell j, hu1]
    exact ⟨rfl, hu2⟩
  | 4, hg =>
    obtain rfl : wV = cs := Option.some.inj hg
    refine rep_glob (fun j => (W.cell? ⟨4, j, none⟩).getD (.int .i64 0)) fun j v hv => ?_
    have hj : j < 4 := (List.getElem?_eq_some_iff.1 hv).1
    obtain ⟨n, hr⟩ : ∃ n, wInts[j]? = some n := ⟨_, List.getElem?_eq_getElem (by show j < 4; exact hj)⟩
    have c0 := w_cells hd1 j n hr
    have hv' : v = .int .i64 n := by
      have : wV = wInts.map fun n => V.int .i64 n := rfl
      rw [this, List.getElem?_map, hr] at hv
      exact (Option.some.inj hv).symm
    have hc : cs1[j]? = some (.int .i64 n) := by simpa using c0
    have hcell4 : W.cell? ⟨4, j, none⟩ = cs1[j]? := World.var?_cell hg1 hv1 j
    rw [hcell4, hc, hv']
    exact ⟨rfl, rfl⟩

/-- The door's own heap meets the condition. -/
theorem doorE_met (os : Os) (args : Array Value) : laidMetH Go.Proofs.Tryd.prog laidE ((World.doorLaid Go.Proofs.Tryd.prog 400 os).forCall (fun _ _ => 0) ⟨#[], args, []⟩).memory :=
  laidMetH_of_parts3 (fuel := 8) (laidMet_of_run' 8 (by kernel_rfl) (by kernel_rfl)) (by kernel_rfl) (by kernel_rfl)
end Go.Abs.Sig

/-! DV1 -/
namespace Go.Abs.Sig
open Go.RowKit Go.Abs
set_option linter.unusedSimpArgs false
set_option linter.unusedVariables false
set_option maxRecDepth 8000
attribute [local irreducible] StCall StYield WPc Weak IterOf Lp2

/-- The parts of a list between blanks. -/
def splitF : Nat → List UInt8 → List (List UInt8)
  | 0, s => [s]
  | f + 1, s => if 0 ≤ ixB s 32 then s.take (ixB s 32).toNat :: splitF f (s.drop ((ixB s 32).toNat + 1)) else [s]
def offP (w x : List UInt8) : Bool := decide (x = w) && decide (w ≠ [])
def offers (s w : List UInt8) : Bool := (splitF s.length s).any (offP w)

def ofT (s w : List UInt8) : List V := [.str s, .str w, .bad, .ptr 0 0, .ptr 1 0, .bad, .bad, .fn (.func 86) [] [.ptr 3 0, .ptr 2 0, .ptr 4 0]] ++ List.replicate 8 .bad
def ofH (w cur : List UInt8) : Heap := [some (.cells 9 [.str w]), some (.cells 4 [.bool false]), some (.cells 9 [.str cur]), some (.cells 9 [.str [32]]), some (.cells 3 [.int .i64 0])]
def ofH7 (w cur : List UInt8) (b : Blk) : Heap := [some (.cells 9 [.str w]), some (.cells 4 [.bool false]), some (.cells 9 [.str cur]), some (.cells 9 [.str [32]]), some (.cells 3 [.int .i64 0]), some .defd, some b]
def ofHR (w cur : List UInt8) (b : Blk) : Heap := [some (.cells 9 [.str w]), some (.cells 4 [.bool true]), some (.cells 9 [.str cur]), some (.cells 9 [.str [32]]), some (.cells 3 [.int .i64 0]), some .defd, some b]
def ofS (w cur : List UInt8) (b : Blk) : S2 := headS 52 ([.yld 6, .ptr 3 0, .ptr 2 0, .ptr 4 0] ++ List.replicate 48 .bad) (ofH7 w cur b) [] none
theorem one_free_str (l : List UInt8) : ∀ v ∈ [V.str l], v.Free := fun v hv => by
  obtain rfl := List.mem_singleton.1 hv
  exact .str _
theorem one_free_im (u : Value) : ∀ v ∈ [V.im u], v.Free := fun v hv => by
  obtain rfl := List.mem_singleton.1 hv
  exact .im _
theorem ofH7_bws (w cur : List UInt8) (b : Blk) (hb : BW 7 (some b) (some b)) : BWs 7 (ofH7 w cur b) (ofH7 w cur b) :=
  .cons (.free (one_free_str _)) (.cons (.free (one_free_im _)) (.cons (.free (one_free_str _)) (.cons (.free (one_free_str _)) (.cons (.free (one_free_im _)) (.cons .defd (.cons hb (.nil _)))))))

theorem split_step {w cur : List UInt8} {f : Nat} (hf : cur.length ≤ f) : (splitF f cur).any (offP w) =
    if 0 ≤ ixB cur 32 then offP w (cur.take (ixB cur 32).toNat) || (splitF (f - 1) (cur.drop ((ixB cur 32).toNat + 1))).any (offP w) else offP w cur := by
  cases f with
  | zero =>
    have : cur = [] := List.eq_nil_of_length_eq_zero (by omega)
    subst this
    have : ixB [] 32 = -1 := rfl
    rw [this, if_neg (by decide)]
    simp [splitF]
  | succ f =>
    rw [splitF]
    by_cases h : 0 ≤ ixB cur 32
    · rw [if_pos h, if_pos h, List.any_cons, Nat.add_sub_cancel]
    · rw [if_neg h, if_neg h]; simp

/-- The iterator, whatever is done with each part. -/
theorem split_iter (G : Nat → Option (List V)) (w : List UInt8) (T : List V) (ps : Array Tmp) (cA cB : Code) (b b' : Blk) (hbe : b = .loop .ready none T ps cA cB 5) (hbe' : b' = .loop .done (some .ret) T ps cA cB 5) (hb : BW 7 (some b) (some b))
    (body : ∀ x cur, StYield Go.Proofs.Tryd.prog G 6 [.str x] (ofH7 w cur b) fun r H' => (offP w x = true → r = .bool false ∧ H' = ofHR w cur b') ∧ (offP w x = false → r = .bool true ∧ H' = ofH7 w cur b))
    (s : List UInt8) (hs : s.length ≤ maxStr) :
    Call2 Go.Proofs.Tryd.prog G 86 [.yld 6, .ptr 3 0, .ptr 2 0, .ptr 4 0] (ofH7 w s b) fun _ H' => ∃ cur, (offers s w = true → H' = ofHR w cur b') ∧ (offers s w = false → H' = ofH7 w cur b) := by
  simp only [maxStr] at hs
  refine stCall2 Go.Proofs.Tryd.func86 rfl (by decide) ?_
  conv => whnf
  intro hw
  refine wpc_loop2 (fun n1 s1 => ∃ (f : Nat) (cur : List UInt8), cur.length ≤ f ∧ cur.length ≤ s.length ∧ n1 = f ∧ s1 = ofS w cur b ∧ (splitF f cur).any (offP w) = offers s w) s.length (ofS w s b) ?_ ⟨s.length, s, Nat.le_refl _, Nat.le_refl _, rfl, rfl, rfl⟩ ?_ ?_
  · exact weak2 hw rfl ⟨.yld 6 (show 6 < 7 by decide), .ptr 3 0 (show 3 < 7 by decide), .ptr 2 0 (show 2 < 7 by decide), .ptr 4 0 (show 4 < 7 by decide), trivial⟩ (ofH7_bws w s b hb) (fun id hid => by cases hid) rfl (fun id hid => by cases hid)
  · rintro n1 s1 ⟨f, cur, _, _, _, rfl, _⟩
    exact ⟨⟨Nat.le_refl 52, fun x hx => by cases hx⟩, rfl, Nat.le_refl _, rfl⟩
  · rintro n1 s1 ⟨f, cur, hf, hcs, rfl, rfl, hany⟩
    rw [split_step hf] at hany
    have hix := ixB_lt cur 32
    have hbody := fun x => body x cur
    conv => whnf
    refine stCall2 Go.Proofs.Tryd.func56 rfl (by decide) ?_
    conv => whnf
    refine Call2.mono (index1_ct G cur 32 _) fun r0 H0 h => ?_
    obtain ⟨h1, h2⟩ := h
    rw [h1, h2]
    clear h1 h2 r0 H0
    conv => whnf
    generalize ixB cur 32 = i at *
    by_cases hi : i < 0
    · rw [if_neg (by omega)] at hany
      refine br_t (decide_eq_true hi) ?_
      conv => whnf
      refine (hbody cur).mono fun r H' hh => ?_
      obtain ⟨h1, h2⟩ := hh
      cases ho : offP w cur with
      | true =>
        obtain ⟨rfl, rfl⟩ := h1 ho
        conv => whnf
        refine ⟨cur, fun _ => rfl, fun hc => ?_⟩
        rw [← hany, ho] at hc; cases hc
      | false =>
        obtain ⟨rfl, rfl⟩ := h2 ho
        conv => whnf
        refine ⟨cur, fun hc => ?_, fun _ => rfl⟩
        rw [← hany, ho] at hc; cases hc
    · rw [if_pos (by omega)] at hany
      have hix := hix (by omega)
      refine br_f (decide_eq_false hi) ?_
      conv => whnf
      have hw0 : IntKind.i64.wrap (i + 0) = i := by rw [Int.add_zero]; exact wrap_i64 (by omega) (by omega)
      have hw1 : IntKind.i64.wrap (i + (([(32 : UInt8)].length : Nat) : Int)) = i + 1 := wrap_i64 (by simp; omega) (by simp; omega)
      rw [hw0]
      refine ⟨by omega, ?_⟩
      conv => whnf
      refine (hbody _).mono fun r H' hh => ?_
      obtain ⟨h1, h2⟩ := hh
      cases ho : offP w (cur.take i.toNat) with
      | true =>
        obtain ⟨rfl, rfl⟩ := h1 ho
        conv => whnf
        refine ⟨cur, fun _ => rfl, fun hc => ?_⟩
        rw [← hany, ho] at hc; cases hc
      | false =>
        obtain ⟨rfl, rfl⟩ := h2 ho
        conv => whnf
        rw [hw1]
        refine ⟨by omega, ?_⟩
        conv => whnf
        have hd : List.drop (i + 1).toNat (List.take ((cur.length : Nat) : Int).toNat cur) = cur.drop (i.toNat + 1) := by
          rw [Int.toNat_natCast, List.take_length, show (i + 1).toNat = i.toNat + 1 by omega]
        rw [hd]
        intro hw2
        refine ⟨n1 - 1, ofS w (cur.drop (i.toNat + 1)) b, by omega, ?_, n1 - 1, _, by rw [List.length_drop]; omega, by rw [List.length_drop]; omega, rfl, rfl, ?_⟩
        · exact weak2 hw2 rfl ⟨.yld 6 (show 6 < 7 by decide), .ptr 3 0 (show 3 < 7 by decide), .ptr 2 0 (show 2 < 7 by decide), .ptr 4 0 (show 4 < 7 by decide), trivial⟩ (ofH7_bws w _ b hb) (fun id hid => by cases hid) rfl (fun id hid => by cases hid)
        · rw [← hany, ho, Bool.false_or]

theorem fn86_vw {n : Nat} (h5 : 4 < n) : VW n (.fn (.func 86) [] [.ptr 3 0, .ptr 2 0, .ptr 4 0]) (.fn (.func 86) [] [.ptr 3 0, .ptr 2 0, .ptr 4 0]) := .fn _ _ _ (fun i v h => by simp at h) (fun i v h => by
  have h := List.mem_of_getElem? h
  simp only [List.mem_cons, List.not_mem_nil, or_false] at h
  rcases h with rfl | rfl | rfl
  · exact .ptr 3 0 (show 3 < n by omega)
  · exact .ptr 2 0 (show 2 < n by omega)
  · exact .ptr 4 0 (show 4 < n by omega))

theorem ofT_vws (s w : List UInt8) : VWs 7 (ofT s w) (ofT s w) := by
  refine .cons (.str _) (.cons (.str _) (.cons (.bad _) (.cons (.ptr 0 0 (show 0 < 7 by decide)) (.cons (.ptr 1 0 (show 1 < 7 by decide)) (.cons (.bad _) (.cons (.bad _) (.cons ?_ ?_)))))))
  · exact fn86_vw (by decide)
  · refine .cons (.bad _) (.cons (.bad _) (.cons (.bad _) (.cons (.bad _) (.cons (.bad _) (.cons (.bad _) (.cons (.bad _) (.cons (.bad _) .nil)))))))
theorem offers_ct (G : Nat → Option (List V)) (s w : List UInt8) (hs : s.length ≤ maxStr) (H : Heap) : Call2 Go.Proofs.Tryd.prog G 37 [.str s, .str w] H fun r H' => H' = H ∧ r = .bool (offers s w) := by
  refine Call2.free (fun x hx => by
    simp only [List.mem_cons, List.not_mem_nil, or_false] at hx
    rcases hx with rfl | rfl
    · exact .str _
    · exact .str _) ?_ H
  refine stCall2 Go.Proofs.Tryd.func37 rfl (by decide) ?_
  conv => whnf
  refine stCall2 Go.Proofs.Tryd.func51 rfl (by decide) ?_
  conv => whnf
  refine stCall2 Go.Proofs.Tryd.func73 rfl (by decide) ?_
  conv => whnf
  intro hw
  refine WPc.weak (σ0 := (headS 16 (ofT s w) (ofH w s) [] none).st) ?_ (Nat.le_refl 5) ?_
  · refine weak2 hw rfl ?_ ?_ (fun id hid => by cases hid) rfl (fun id hid => by cases hid)
    · exact ⟨.str _, .str _, .ptr 0 0 (show 0 < 5 by decide), .ptr 1 0 (show 1 < 5 by decide), fn86_vw (show 4 < 5 by decide), trivial⟩
    · exact .cons (.free fun v hv => by simp at hv; subst hv; exact .str _) (.cons (.free fun v hv => by simp at hv; subst hv; exact .im _) (.cons (.free fun v hv => by simp at hv; subst hv; exact .str _)
        (.cons (.free fun v hv => by simp at hv; subst hv; exact .str _) (.cons (.free fun v hv => by simp at hv; subst hv; exact .im _) (.nil _)))))
  clear hw
  refine wpc_rangeIn2 (show 16 ≤ 16 by decide) rfl rfl ?_
  refine Call2.mono (split_iter G w (ofT s w) #[8] _ _ _ _ rfl rfl (.loop _ _ _ _ _ _ _ _ (ofT_vws s w) (show 5 < 7 by decide))
    ?_ s hs) ?_
  · intro x cur
    refine yield2 (n := 16) rfl rfl rfl (show 16 ≤ 16 by decide) ?_
    conv => whnf
    refine ⟨rfl, rfl, ?_⟩
    conv => whnf
    unfold offP
    cases hx : decide (x = w)
    · conv => whnf
      refine ⟨fun h => ?_, fun _ => ⟨rfl, rfl⟩⟩
      cases h
    · conv => whnf
      cases w with
      | nil =>
        conv => whnf
        refine ⟨fun h => ?_, fun _ => ⟨rfl, rfl⟩⟩
        cases h
      | cons a w' =>
        conv => whnf
        refine ⟨fun _ => ⟨rfl, rfl⟩, fun h => ?_⟩
        cases h
  · rintro r H' ⟨cur, h1, h2⟩
    cases ho : offers s w with
    | true =>
      obtain rfl := h1 ho
      conv => whnf
      exact ⟨.im _, rfl⟩
    | false =>
      obtain rfl := h2 ho
      conv => whnf
      exact ⟨.im _, rfl⟩
end Go.Abs.Sig

/-! DV2 -/
namespace Go.Abs.Sig
open Go.RowKit Go.Abs
set_option linter.unusedSimpArgs false
set_option linter.unusedVariables false
set_option maxRecDepth 8000
attribute [local irreducible] StCall StYield WPc Weak IterOf Lp2

/-! ### what it computes -/
def lesserF (a b : Int) : Int := if b = 0 then a else if b < a then b else a
def agreeF (ch fr bt a b c : Int) : (Int × Int × Int) × Int :=
  if tR ch fr bt = false ∨ a < 0 ∨ b < 0 ∨ c < 0 then ((0, 0, 0), 1)
  else if 0 < b ∧ b < 4096 then ((0, 0, 0), 16)
  else ((lesserF ch a, lesserF fr b, if c < bt then c else bt), 0)
def dEnds (h : Hand) (m : Met) : Hand × List Met × Int := if isC m 50 then ({ h with st := 6 }, [ok51], 0) else (h, [], 16)
def dialM (h : Hand) : Met := (10, 11, [(0, [0, 0, 0, 0]), (0, PLAIN), (0, [0] ++ h.us ++ [0] ++ h.wd), (0, [101, 110, 95, 85, 83])])
def dStart (h : Hand) (m : Met) : Hand × List Met × Int :=
  if isC m 10 then
    if (argOf m 0).1 ≠ 0 ∨ (argOf m 1).1 ≠ 9 ∨ offers (argOf m 3).2 PLAIN = false then (h, [], 16)
    else ({ h with st := 2 }, [dialM h], 0)
  else dEnds h m
def dTuneR (h : Hand) (x : (Int × Int × Int) × Int) : Hand × List Met × Int :=
  if x.2 ≠ 0 then (h, [], x.2)
  else ({ h with st := 3, ch := x.1.1, fr := x.1.2.1, bt := x.1.2.2 }, [(10, 31, [(u64 x.1.1, []), (u64 x.1.2.1, []), (u64 x.1.2.2, [])]), (10, 40, [(0, h.ho), (0, []), (0, [])])], 0)
def dTune (h : Hand) (m : Met) : Hand × List Met × Int :=
  if isC m 30 then dTuneR h (agreeF h.ch h.fr h.bt (i64 (argOf m 0).1) (i64 (argOf m 1).1) (i64 (argOf m 2).1)) else dEnds h m
def dOpen (h : Hand) (m : Met) : Hand × List Met × Int := if isC m 41 then ({ h with st := 4 }, [], 0) else dEnds h m
def dRun (h : Hand) (m : Met) : Hand × List Met × Int := if isC m 60 then (h, [], 0) else if isC m 61 then (h, [], 0) else dEnds h m
def dTake (h : Hand) (m : Met) : Hand × List Met × Int :=
  if mright tbv m ≠ 0 then (h, [], 7)
  else if h.st = 5 ∨ h.st = 6 then sTake h m
  else if h.st = 1 then dStart h m else if h.st = 2 then dTune h m else if h.st = 3 then dOpen h m else if h.st = 4 then dRun h m else (h, [], 16)

/-- Is it that method of a connection? -/
theorem dis_ct (G : Nat → Option (List V)) (H : Heap) (k : Nat) (hc : Hand) (m : Met) (out : V) (id : Int) (hk : H[k]? = some (some (.cells 79 (hcells hc ++ mcells m ++ [out])))) :
    Call2 Go.Proofs.Tryd.prog G 75 [.ptr k 0, .int .i64 id] H fun r H' => H' = H ∧ r = .bool (isC m id) := by
  obtain ⟨c, i, l⟩ := m
  unfold isC
  refine stCall2 Go.Proofs.Tryd.func75 rfl (by decide) ?_
  conv => whnf
  rw [hk]
  conv => whnf
  cases h1 : decide (c = 10)
  · conv => whnf
    exact ⟨rfl, rfl⟩
  · conv => whnf
    rw [hk]
    conv => whnf
    exact ⟨rfl, rfl⟩

/-- A value's number, as a closure of tune takes it. -/
theorem dtuneArg_ct (G : Nat → Option (List V)) (H : Heap) (hc : Hand) (m : Met) (out : V) (i : Int) (a : Val') (ha : ∀ H, Call2 Go.Proofs.Tryd.prog G 43 [.agg (mcells m), .int .i64 i] H fun r H' => H' = H ∧ r = .agg (vcells a))
    (h5 : H[5]? = some (some (.cells 77 [.ptr 4 0]))) (h4 : H[4]? = some (some (.cells 79 (hcells hc ++ mcells m ++ [out])))) :
    Call2 Go.Proofs.Tryd.prog G 78 [.int .i64 i, .ptr 5 0] H fun r H' => H' = H ∧ r = .int .i64 (i64 a.1) := by
  obtain ⟨c, j, l⟩ := m
  refine stCall2 Go.Proofs.Tryd.func78 rfl (by decide) ?_
  conv => whnf
  rw [h5]
  conv => whnf
  rw [h4]
  conv => whnf
  refine Call2.mono (ha _) fun r0 H0 h => ?_
  obtain ⟨h1, h2⟩ := h
  rw [h1, h2]
  clear h1 h2 r0 H0
  conv => whnf
  exact ⟨rfl, rfl⟩

theorem lesser_ct (G : Nat → Option (List V)) (a b : Int) (H : Heap) : Call2 Go.Proofs.Tryd.prog G 50 [.int .i64 a, .int .i64 b] H fun r H' => H' = H ∧ r = .int .i64 (lesserF a b) := by
  refine Call2.free (fun x hx => by
    simp only [List.mem_cons, List.not_mem_nil, or_false] at hx
    rcases hx with rfl | rfl
    · exact .im _
    · exact .im _) ?_ H
  refine stCall2 Go.Proofs.Tryd.func50 rfl (by decide) ?_
  conv => whnf
  unfold lesserF
  by_cases h : b = 0
  · refine br_t (decide_eq_true h) ?_
    rw [if_pos h]
    conv => whnf
    exact ⟨.im _, rfl⟩
  · refine br_f (decide_eq_false h) ?_
    rw [if_neg h]
    conv => whnf
    exact ⟨.im _, rfl⟩

theorem agree_ct (G : Nat → Option (List V)) (ch fr bt a b c : Int) (H : Heap) : Call2 Go.Proofs.Tryd.prog G 36 [.agg (tcells ch fr bt), .agg (tcells a b c)] H fun r H' => H' = H ∧
    r = .tup [.agg (tcells (agreeF ch fr bt a b c).1.1 (agreeF ch fr bt a b c).1.2.1 (agreeF ch fr bt a b c).1.2.2), .int .i64 (agreeF ch fr bt a b c).2] := by
  refine Call2.free (fun x hx => by
    simp only [List.mem_cons, List.not_mem_nil, or_false] at hx
    rcases hx with rfl | rfl
    · exact tcells_free _ _ _
    · exact tcells_free _ _ _) ?_ H
  refine stCall2 Go.Proofs.Tryd.func36 rfl (by decide) ?_
  conv => whnf
  refine Call2.mono (sright_ct G ch fr bt _) fun r0 H0 h => ?_
  obtain ⟨h1, h2⟩ := h
  rw [h1, h2]
  clear h1 h2 r0 H0
  conv => whnf
  unfold agreeF
  cases hT : tR ch fr bt
  · rw [if_pos (.inl rfl)]
    conv => whnf
    exact ⟨free_tup2 (tcells_free 0 0 0) (.im _), rfl⟩
  conv => whnf
  by_cases ha : a < 0
  · rw [if_pos (.inr (.inl ha))]
    refine br_t (decide_eq_true ha) ?_
    conv => whnf
    exact ⟨free_tup2 (tcells_free 0 0 0) (.im _), rfl⟩
  refine br_f (decide_eq_false ha) ?_
  conv => whnf
  by_cases hb : b < 0
  · rw [if_pos (.inr (.inr (.inl hb)))]
    refine br_t (decide_eq_true hb) ?_
    conv => whnf
    exact ⟨free_tup2 (tcells_free 0 0 0) (.im _), rfl⟩
  refine br_f (decide_eq_false hb) ?_
  conv => whnf
  by_cases hc : c < 0
  · rw [if_pos (.inr (.inr (.inr hc)))]
    refine br_t (decide_eq_true hc) ?_
    conv => whnf
    exact ⟨free_tup2 (tcells_free 0 0 0) (.im _), rfl⟩
  refine br_f (decide_eq_false hc) ?_
  rw [if_neg (by simp [ha, hb, hc])]
  conv => whnf
  have hfin : ∀ (hx : ¬(0 < b ∧ b < 4096)), True := fun _ => trivial
  by_cases hb0 : 0 < b
  · refine br_t (decide_eq_true hb0) ?_
    conv => whnf
    by_cases hb1 : b < 4096
    · rw [if_pos ⟨hb0, hb1⟩]
      refine br_t (decide_eq_true hb1) ?_
      conv => whnf
      exact ⟨free_tup2 (tcells_free 0 0 0) (.im _), rfl⟩
    refine br_f (decide_eq_false hb1) ?_
    rw [if_neg (fun h => hb1 h.2)]
    conv => whnf
    intro hw
    refine wpc_drawG2 [18] [] [(8, 18)] (by rfl) (by kernel_rfl) (by kernel_rfl) hw ?_
    conv => whnf
    refine ⟨_, fun X _ => lesser_ct G _ _ _, ?_⟩
    conv => whnf
    refine ⟨_, fun X _ => lesser_ct G _ _ _, ?_⟩
    conv => whnf
    exact ⟨free_tup2 (tcells_free _ _ _) (.im _), rfl⟩
  · refine br_f (decide_eq_false hb0) ?_
    rw [if_neg (fun h => hb0 h.1)]
    conv => whnf
    intro hw
    refine wpc_drawG2 [18] [] [(8, 18)] (by rfl) (by kernel_rfl) (by kernel_rfl) hw ?_
    conv => whnf
    refine ⟨_, fun X _ => lesser_ct G _ _ _, ?_⟩
    conv => whnf
    refine ⟨_, fun X _ => lesser_ct G _ _ _, ?_⟩
    conv => whnf
    exact ⟨free_tup2 (tcells_free _ _ _) (.im _), rfl⟩
end Go.Abs.Sig

/-! DV3 -/
namespace Go.Abs.Sig
open Go.RowKit Go.Abs
set_option linter.unusedSimpArgs false
set_option linter.unusedVariables false
set_option maxRecDepth 8000
attribute [local irreducible] StCall StYield WPc Weak IterOf Lp2

theorem dTake_bad {h : Hand} {m : Met} (hr : mright tbv m ≠ 0) : dTake h m = (h, [], 7) := if_pos hr
theorem dTake_1 {h : Hand} {m : Met} (hr : ¬ mright tbv m ≠ 0) (hs : h.st = 1) : dTake h m = dStart h m := by
  unfold dTake; rw [if_neg hr, if_neg (by omega), if_pos hs]
theorem dTake_2 {h : Hand} {m : Met} (hr : ¬ mright tbv m ≠ 0) (hs : h.st = 2) : dTake h m = dTune h m := by
  unfold dTake; rw [if_neg hr, if_neg (by omega), if_neg (by omega), if_pos hs]
theorem dTake_3 {h : Hand} {m : Met} (hr : ¬ mright tbv m ≠ 0) (hs : h.st = 3) : dTake h m = dOpen h m := by
  unfold dTake; rw [if_neg hr, if_neg (by omega), if_neg (by omega), if_neg (by omega), if_pos hs]
theorem dTake_4 {h : Hand} {m : Met} (hr : ¬ mright tbv m ≠ 0) (hs : h.st = 4) : dTake h m = dRun h m := by
  unfold dTake; rw [if_neg hr, if_neg (by omega), if_neg (by omega), if_neg (by omega), if_neg (by omega), if_pos hs]
theorem dTake_56 {h : Hand} {m : Met} (hr : ¬ mright tbv m ≠ 0) (hs : h.st = 5 ∨ h.st = 6) : dTake h m = sTake h m := by
  unfold dTake; rw [if_neg hr, if_pos hs]
theorem dTake_out {h : Hand} {m : Met} (hr : ¬ mright tbv m ≠ 0) (hs : ¬ (1 ≤ h.st ∧ h.st ≤ 6)) : dTake h m = (h, [], 16) := by
  unfold dTake; rw [if_neg hr, if_neg (by omega), if_neg (by omega), if_neg (by omega), if_neg (by omega), if_neg (by omega)]

theorem vw_tkl {n : Nat} {a b c d e : Int} {u w o : List UInt8} {l : List Met} :
    VW n (.tup [.agg [.int .i64 a, .int .i64 b, .int .i64 c, .int .i64 d, .str u, .str w, .str o], .dat 3 (mrows l) .no, .int .i64 e]) (tkV (⟨a, b, c, d, u, w, o⟩, l, e)) := vw_tup3 vw_hand (.free (mrows_free _)) (.im _)
def stL : List (V × V) := [(.int .i64 1, .fn (.func 52) [] []), (.int .i64 2, .fn (.func 53) [] []), (.int .i64 3, .fn (.func 54) [] []), (.int .i64 4, .fn (.func 55) [] [])]
theorem states_ct (G : Nat → Option (List V)) (H : Heap) : Call2 Go.Proofs.Tryd.prog G 38 [] H fun r H' => H' = H ++ [some (.map stL 4)] ∧ r = .mp H.length := by
  refine stCall2 Go.Proofs.Tryd.func38 rfl (by decide) ?_
  iterate 7 (conv => whnf; try simp only [List.append_assoc, List.cons_append, List.nil_append, List.length_append, List.length_cons, List.length_nil, Nat.zero_add, Nat.add_assoc, Nat.reduceAdd, ga0, ga1, ga2, ga3, ga4, ga5, sa0, sa1, sa2, sa3, sa4, sa5, S2.setH_H, List.all_cons, List.all_nil, isDefd, nodupB, List.any_nil, Bool.and_true, Bool.not_false, List.foldl_cons, List.foldl_nil])
  exact ⟨rfl, rfl⟩
set_option maxHeartbeats 4000000 in
theorem dtake3 (G : Nat → Option (List V)) (hG : G 4 = some wV) (ch fr bt : Int) (us wd ho : List UInt8) (c i : Int) (l : List Val') (hm : ∀ v ∈ l, v.2.length ≤ maxStr) :
    Call2 Go.Proofs.Tryd.prog G 21 [.agg (hcells ⟨3, ch, fr, bt, us, wd, ho⟩), .agg (mcells (c, i, l))] [] fun r H' => r.Free ∧ r = tkV (dTake ⟨3, ch, fr, bt, us, wd, ho⟩ (c, i, l)) := by
  have hr := mrightT_ct G hG (c, i, l) hm
  obtain ⟨e, hee⟩ : ∃ e, mright tbv (c, i, l) = e := ⟨_, rfl⟩
  rw [hee] at hr
  refine Call2.weakR ?_
  refine stCall2 Go.Proofs.Tryd.func21 rfl (by decide) ?_
  conv => whnf
  refine Call2.mono (hr _) fun r0 H0 h => ?_
  obtain ⟨h1, h2⟩ := h
  rw [h1, h2]
  clear h1 h2 r0 H0
  conv => whnf
  by_cases he : e ≠ 0
  · refine br_t (decide_eq_true he) ?_
    rw [dTake_bad (by rw [hee]; exact he)]
    conv => whnf
    exact ⟨_, vw_tk0, tkV_free _, rfl⟩
  refine br_f (decide_eq_false he) ?_
  rw [← hee] at he
  rw [dTake_3 he rfl]
  conv => whnf
  intro hwS
  refine wpc_drawG2 [0] [0] [(2, 0)] (by rfl) (by kernel_rfl) (by kernel_rfl) hwS ?_
  conv => whnf
  refine ⟨_, _, 3, states_ct G _, fun i hi => lay_off hi, by simp, ?_⟩
  conv => whnf
  refine stCall2 Go.Proofs.Tryd.func54 rfl (by decide) ?_
  conv => whnf
  unfold dOpen
  refine Call2.mono (dis_ct G _ 4 _ (c, i, l) _ 41 rfl) fun r0 H0 h => ?_
  obtain ⟨h1, h2⟩ := h
  rw [h1, h2]
  clear h1 h2 r0 H0
  conv => whnf
  cases h41 : isC (c, i, l) 41
  · rw [if_neg (by simp)]
    conv => whnf
    refine stCall2 Go.Proofs.Tryd.func76 rfl (by decide) ?_
    conv => whnf
    refine Call2.mono (dis_ct G _ 4 _ (c, i, l) _ 50 rfl) fun r0 H0 h => ?_
    obtain ⟨h1, h2⟩ := h
    rw [h1, h2]
    clear h1 h2 r0 H0
    conv => whnf
    unfold dEnds
    cases h50 : isC (c, i, l) 50
    · rw [if_neg (by simp)]
      conv => whnf
      exact ⟨_, vw_tk0, tkV_free _, rfl⟩
    · rw [if_pos rfl]
      conv => whnf
      refine stCall2 Go.Proofs.Tryd.func77 rfl (by decide) ?_
      conv => whnf
      refine ⟨.inl rfl, .inr rfl, ?_, Nat.le_of_ble_eq_true rfl, Nat.le_of_ble_eq_true rfl, ?_⟩
      · intro r hr
        obtain rfl := List.mem_singleton.1 hr
        rfl
      conv => whnf
      intro hwL
      refine wpc_drawG2 [8] [] [(7, 8)] (by rfl) (by kernel_rfl) (by kernel_rfl) hwL ?_
      conv => whnf
      exact ⟨_, vw_tk1 (l := []) (.inr rfl), tkV_free _, rfl⟩
  · rw [if_pos rfl]
    conv => whnf
    intro hwL
    refine wpc_drawG2 [8] [] [(7, 8)] (by rfl) (by kernel_rfl) (by kernel_rfl) hwL ?_
    conv => whnf
    exact ⟨_, vw_tk0, tkV_free _, rfl⟩

set_option maxHeartbeats 4000000 in
theorem dtake4 (G : Nat → Option (List V)) (hG : G 4 = some wV) (ch fr bt : Int) (us wd ho : List UInt8) (c i : Int) (l : List Val') (hm : ∀ v ∈ l, v.2.length ≤ maxStr) :
    Call2 Go.Proofs.Tryd.prog G 21 [.agg (hcells ⟨4, ch, fr, bt, us, wd, ho⟩), .agg (mcells (c, i, l))] [] fun r H' => r.Free ∧ r = tkV (dTake ⟨4, ch, fr, bt, us, wd, ho⟩ (c, i, l)) := by
  have hr := mrightT_ct G hG (c, i, l) hm
  obtain ⟨e, hee⟩ : ∃ e, mright tbv (c, i, l) = e := ⟨_, rfl⟩
  rw [hee] at hr
  refine Call2.weakR ?_
  refine stCall2 Go.Proofs.Tryd.func21 rfl (by decide) ?_
  conv => whnf
  refine Call2.mono (hr _) fun r0 H0 h => ?_
  obtain ⟨h1, h2⟩ := h
  rw [h1, h2]
  clear h1 h2 r0 H0
  conv => whnf
  by_cases he : e ≠ 0
  · refine br_t (decide_eq_true he) ?_
    rw [dTake_bad (by rw [hee]; exact he)]
    conv => whnf
    exact ⟨_, vw_tk0, tkV_free _, rfl⟩
  refine br_f (decide_eq_false he) ?_
  rw [← hee] at he
  rw [dTake_4 he rfl]
  conv => whnf
  intro hwS
  refine wpc_drawG2 [0] [0] [(2, 0)] (by rfl) (by kernel_rfl) (by kernel_rfl) hwS ?_
  conv => whnf
  refine ⟨_, _, 3, states_ct G _, fun i hi => lay_off hi, by simp, ?_⟩
  conv => whnf
  refine stCall2 Go.Proofs.Tryd.func55 rfl (by decide) ?_
  conv => whnf
  unfold dRun
  refine Call2.mono (dis_ct G _ 4 _ (c, i, l) _ 60 rfl) fun r0 H0 h => ?_
  obtain ⟨h1, h2⟩ := h
  rw [h1, h2]
  clear h1 h2 r0 H0
  conv => whnf
  cases h60 : isC (c, i, l) 60
  · rw [if_neg (by simp)]
    conv => whnf
    refine Call2.mono (dis_ct G _ 4 _ (c, i, l) _ 61 rfl) fun r0 H0 h => ?_
    obtain ⟨h1, h2⟩ := h
    rw [h1, h2]
    clear h1 h2 r0 H0
    conv => whnf
    cases h61 : isC (c, i, l) 61
    · rw [if_neg (by simp)]
      conv => whnf
      refine stCall2 Go.Proofs.Tryd.func76 rfl (by decide) ?_
      conv => whnf
      refine Call2.mono (dis_ct G _ 4 _ (c, i, l) _ 50 rfl) fun r0 H0 h => ?_
      obtain ⟨h1, h2⟩ := h
      rw [h1, h2]
      clear h1 h2 r0 H0
      conv => whnf
      unfold dEnds
      cases h50 : isC (c, i, l) 50
      · rw [if_neg (by simp)]
        conv => whnf
        exact ⟨_, vw_tk0, tkV_free _, rfl⟩
      · rw [if_pos rfl]
        conv => whnf
        refine stCall2 Go.Proofs.Tryd.func77 rfl (by decide) ?_
        conv => whnf
        refine ⟨.inl rfl, .inr rfl, ?_, Nat.le_of_ble_eq_true rfl, Nat.le_of_ble_eq_true rfl, ?_⟩
        · intro r hr
          obtain rfl := List.mem_singleton.1 hr
          rfl
        conv => whnf
        intro hwL
        refine wpc_drawG2 [8] [] [(7, 8)] (by rfl) (by kernel_rfl) (by kernel_rfl) hwL ?_
        conv => whnf
        exact ⟨_, vw_tk1 (l := []) (.inr rfl), tkV_free _, rfl⟩
    · rw [if_pos rfl]
      conv => whnf
      intro hwL
      refine wpc_drawG2 [8] [] [(7, 8)] (by rfl) (by kernel_rfl) (by kernel_rfl) hwL ?_
      conv => whnf
      exact ⟨_, vw_tk0, tkV_free _, rfl⟩
  · rw [if_pos rfl]
    conv => whnf
    intro hwL
    refine wpc_drawG2 [8] [] [(7, 8)] (by rfl) (by kernel_rfl) (by kernel_rfl) hwL ?_
    conv => whnf
    exact ⟨_, vw_tk0, tkV_free _, rfl⟩

set_option maxHeartbeats 4000000 in
theorem dtake5 (G : Nat → Option (List V)) (hG : G 4 = some wV) (ch fr bt : Int) (us wd ho : List UInt8) (c i : Int) (l : List Val') (hm : ∀ v ∈ l, v.2.length ≤ maxStr) :
    Call2 Go.Proofs.Tryd.prog G 21 [.agg (hcells ⟨5, ch, fr, bt, us, wd, ho⟩), .agg (mcells (c, i, l))] [] fun r H' => r.Free ∧ r = tkV (dTake ⟨5, ch, fr, bt, us, wd, ho⟩ (c, i, l)) := by
  have hr := mrightT_ct G hG (c, i, l) hm
  obtain ⟨e, hee⟩ : ∃ e, mright tbv (c, i, l) = e := ⟨_, rfl⟩
  rw [hee] at hr
  refine Call2.weakR ?_
  refine stCall2 Go.Proofs.Tryd.func21 rfl (by decide) ?_
  conv => whnf
  refine Call2.mono (hr _) fun r0 H0 h => ?_
  obtain ⟨h1, h2⟩ := h
  rw [h1, h2]
  clear h1 h2 r0 H0
  conv => whnf
  by_cases he : e ≠ 0
  · refine br_t (decide_eq_true he) ?_
    rw [dTake_bad (by rw [hee]; exact he)]
    conv => whnf
    exact ⟨_, vw_tk0, tkV_free _, rfl⟩
  refine br_f (decide_eq_false he) ?_
  rw [← hee] at he
  rw [dTake_56 he (.inl rfl)]
  have hs := stake_ct G hG ⟨5, ch, fr, bt, us, wd, ho⟩ (c, i, l) hm
  generalize sTake ⟨5, ch, fr, bt, us, wd, ho⟩ (c, i, l) = x at hs ⊢
  obtain ⟨⟨s', ch', fr', bt', us', wd', ho'⟩, l', e'⟩ := x
  conv => whnf
  refine Call2.mono (hs _) fun r0 H0 h => ?_
  obtain ⟨h1, h2⟩ := h
  rw [h1, h2]
  clear h1 h2 r0 H0
  conv => whnf
  exact ⟨_, vw_tkl, tkV_free _, rfl⟩

set_option maxHeartbeats 4000000 in
theorem dtake6 (G : Nat → Option (List V)) (hG : G 4 = some wV) (ch fr bt : Int) (us wd ho : List UInt8) (c i : Int) (l : List Val') (hm : ∀ v ∈ l, v.2.length ≤ maxStr) :
    Call2 Go.Proofs.Tryd.prog G 21 [.agg (hcells ⟨6, ch, fr, bt, us, wd, ho⟩), .agg (mcells (c, i, l))] [] fun r H' => r.Free ∧ r = tkV (dTake ⟨6, ch, fr, bt, us, wd, ho⟩ (c, i, l)) := by
  have hr := mrightT_ct G hG (c, i, l) hm
  obtain ⟨e, hee⟩ : ∃ e, mright tbv (c, i, l) = e := ⟨_, rfl⟩
  rw [hee] at hr
  refine Call2.weakR ?_
  refine stCall2 Go.Proofs.Tryd.func21 rfl (by decide) ?_
  conv => whnf
  refine Call2.mono (hr _) fun r0 H0 h => ?_
  obtain ⟨h1, h2⟩ := h
  rw [h1, h2]
  clear h1 h2 r0 H0
  conv => whnf
  by_cases he : e ≠ 0
  · refine br_t (decide_eq_true he) ?_
    rw [dTake_bad (by rw [hee]; exact he)]
    conv => whnf
    exact ⟨_, vw_tk0, tkV_free _, rfl⟩
  refine br_f (decide_eq_false he) ?_
  rw [← hee] at he
  rw [dTake_56 he (.inr rfl)]
  have hs := stake_ct G hG ⟨6, ch, fr, bt, us, wd, ho⟩ (c, i, l) hm
  generalize sTake ⟨6, ch, fr, bt, us, wd, ho⟩ (c, i, l) = x at hs ⊢
  obtain ⟨⟨s', ch', fr', bt', us', wd', ho'⟩, l', e'⟩ := x
  conv => whnf
  refine Call2.mono (hs _) fun r0 H0 h => ?_
  obtain ⟨h1, h2⟩ := h
  rw [h1, h2]
  clear h1 h2 r0 H0
  conv => whnf
  exact ⟨_, vw_tkl, tkV_free _, rfl⟩
end Go.Abs.Sig

/-! DV4 -/
namespace Go.Abs.Sig
open Go.RowKit Go.Abs
set_option linter.unusedSimpArgs false
set_option linter.unusedVariables false
set_option maxRecDepth 8000
attribute [local irreducible] StCall StYield WPc Weak IterOf Lp2


theorem dstartArg_ct (G : Nat → Option (List V)) (H : Heap) (hc : Hand) (m : Met) (out : V) (i : Int) (a : Val') (ha : ∀ H, Call2 Go.Proofs.Tryd.prog G 43 [.agg (mcells m), .int .i64 i] H fun r H' => H' = H ∧ r = .agg (vcells a))
    (h5 : H[5]? = some (some (.cells 77 [.ptr 4 0]))) (h4 : H[4]? = some (some (.cells 79 (hcells hc ++ mcells m ++ [out])))) :
    Call2 Go.Proofs.Tryd.prog G 74 [.int .i64 i, .ptr 5 0] H fun r H' => H' = H ++ [some (.cells 44 (vcells a))] ∧ r = .agg (vcells a) := by
  obtain ⟨c, j, l⟩ := m
  have hl : 5 < H.length := (List.getElem?_eq_some_iff.1 h5).1
  refine stCall2 Go.Proofs.Tryd.func74 rfl (by decide) ?_
  conv => whnf
  rw [List.getElem?_append_left hl, h5]
  conv => whnf
  rw [List.getElem?_append_left (by omega), h4]
  conv => whnf
  refine Call2.mono (ha _) fun r0 H0 h => ?_
  obtain ⟨h1, h2⟩ := h
  rw [h1, h2]
  clear h1 h2 r0 H0
  conv => whnf
  iterate 4 (conv => whnf; try simp only [List.append_assoc, List.cons_append, List.nil_append, List.length_append, List.length_cons, List.length_nil, Nat.zero_add, Nat.add_assoc, Nat.reduceAdd, ga0, ga1, ga2, ga3, ga4, ga5, sa0, sa1, sa2, sa3, sa4, sa5, S2.setH_H, List.all_cons, List.all_nil, isDefd, nodupB, List.any_nil, Bool.and_true, Bool.not_false, List.foldl_cons, List.foldl_nil])
  exact ⟨rfl, rfl⟩

set_option maxHeartbeats 4000000 in
theorem dtake1 (G : Nat → Option (List V)) (hG : G 4 = some wV) (ch fr bt : Int) (us wd ho : List UInt8) (c i : Int) (l : List Val') (hm : ∀ v ∈ l, v.2.length ≤ maxStr) (hu : us.length ≤ maxStr) (hwd : wd.length ≤ maxStr) :
    Call2 Go.Proofs.Tryd.prog G 21 [.agg (hcells ⟨1, ch, fr, bt, us, wd, ho⟩), .agg (mcells (c, i, l))] [] fun r H' => r.Free ∧ r = tkV (dTake ⟨1, ch, fr, bt, us, wd, ho⟩ (c, i, l)) := by
  have hr := mrightT_ct G hG (c, i, l) hm
  obtain ⟨e, hee⟩ : ∃ e, mright tbv (c, i, l) = e := ⟨_, rfl⟩
  rw [hee] at hr
  refine Call2.weakR ?_
  refine stCall2 Go.Proofs.Tryd.func21 rfl (by decide) ?_
  conv => whnf
  refine Call2.mono (hr _) fun r0 H0 h => ?_
  obtain ⟨h1, h2⟩ := h
  rw [h1, h2]
  clear h1 h2 r0 H0
  conv => whnf
  by_cases he : e ≠ 0
  · refine br_t (decide_eq_true he) ?_
    rw [dTake_bad (by rw [hee]; exact he)]
    conv => whnf
    exact ⟨_, vw_tk0, tkV_free _, rfl⟩
  refine br_f (decide_eq_false he) ?_
  rw [← hee] at he
  rw [dTake_1 he rfl]
  conv => whnf
  intro hwS
  refine wpc_drawG2 [0] [0] [(2, 0)] (by rfl) (by kernel_rfl) (by kernel_rfl) hwS ?_
  conv => whnf
  refine ⟨_, _, 3, states_ct G _, fun i hi => lay_off hi, by simp, ?_⟩
  conv => whnf
  refine stCall2 Go.Proofs.Tryd.func52 rfl (by decide) ?_
  conv => whnf
  unfold dStart
  refine Call2.mono (dis_ct G _ 4 _ (c, i, l) _ 10 rfl) fun r0 H0 h => ?_
  obtain ⟨h1, h2⟩ := h
  rw [h1, h2]
  clear h1 h2 r0 H0
  conv => whnf
  cases h10 : isC (c, i, l) 10
  · rw [if_neg (by simp)]
    conv => whnf
    refine stCall2 Go.Proofs.Tryd.func76 rfl (by decide) ?_
    conv => whnf
    refine Call2.mono (dis_ct G _ 4 _ (c, i, l) _ 50 rfl) fun r0 H0 h => ?_
    obtain ⟨h1, h2⟩ := h
    rw [h1, h2]
    clear h1 h2 r0 H0
    conv => whnf
    unfold dEnds
    cases h50 : isC (c, i, l) 50
    · rw [if_neg (by simp)]
      conv => whnf
      exact ⟨_, vw_tk0, tkV_free _, rfl⟩
    · rw [if_pos rfl]
      conv => whnf
      refine stCall2 Go.Proofs.Tryd.func77 rfl (by decide) ?_
      conv => whnf
      refine ⟨.inl rfl, .inr rfl, ?_, Nat.le_of_ble_eq_true rfl, Nat.le_of_ble_eq_true rfl, ?_⟩
      · intro r hr
        obtain rfl := List.mem_singleton.1 hr
        rfl
      conv => whnf
      intro hwL
      refine wpc_drawG2 [8] [] [(7, 8)] (by rfl) (by kernel_rfl) (by kernel_rfl) hwL ?_
      conv => whnf
      exact ⟨_, vw_tk1 (l := []) (.inr rfl), tkV_free _, rfl⟩
  · rw [if_pos rfl]
    have hl3 := argOf_len (m := (c, i, l)) hm 3
    have harg0 := arg_ct G (c, i, l) 0
    have harg1 := arg_ct G (c, i, l) 1
    have harg3 := arg_ct G (c, i, l) 3
    generalize argOf (c, i, l) 0 = a0 at harg0 ⊢
    generalize argOf (c, i, l) 1 = a1 at harg1 ⊢
    generalize argOf (c, i, l) 3 = a3 at harg3 hl3 ⊢
    conv => whnf
    refine Call2.mono (dstartArg_ct G _ _ (c, i, l) _ 0 a0 harg0 rfl rfl) fun r0 H0 h => ?_
    obtain ⟨h1, h2⟩ := h
    rw [h1, h2]
    clear h1 h2 r0 H0
    conv => whnf
    by_cases h0 : a0.1 ≠ 0
    · rw [if_pos (.inl h0)]
      refine br_t (decide_eq_true h0) ?_
      conv => whnf
      exact ⟨_, vw_tk0, tkV_free _, rfl⟩
    refine br_f (decide_eq_false h0) ?_
    conv => whnf
    refine Call2.mono (dstartArg_ct G _ _ (c, i, l) _ 1 a1 harg1 rfl rfl) fun r0 H0 h => ?_
    obtain ⟨h1, h2⟩ := h
    rw [h1, h2]
    clear h1 h2 r0 H0
    conv => whnf
    by_cases h9 : a1.1 ≠ 9
    · rw [if_pos (.inr (.inl h9))]
      refine br_t (decide_eq_true h9) ?_
      conv => whnf
      exact ⟨_, vw_tk0, tkV_free _, rfl⟩
    refine br_f (decide_eq_false h9) ?_
    conv => whnf
    refine Call2.mono (dstartArg_ct G _ _ (c, i, l) _ 3 a3 harg3 rfl rfl) fun r0 H0 h => ?_
    obtain ⟨h1, h2⟩ := h
    rw [h1, h2]
    clear h1 h2 r0 H0
    conv => whnf
    refine Call2.mono (offers_ct G a3.2 PLAIN hl3 _) fun r0 H0 h => ?_
    obtain ⟨h1, h2⟩ := h
    rw [h1, h2]
    clear h1 h2 r0 H0
    conv => whnf
    cases hof : offers a3.2 PLAIN
    · rw [if_pos (.inr (.inr rfl))]
      conv => whnf
      exact ⟨_, vw_tk0, tkV_free _, rfl⟩
    rw [if_neg (by simp [h0, h9])]
    simp only [maxStr] at hu hwd
    conv => whnf
    intro hw
    refine wpc_draw2 20 (by rfl) (by decide) (by kernel_rfl) hw ?_
    conv => whnf
    refine ⟨_, fun _ _ => sempty_ct G _, ?_⟩
    conv => whnf
    refine ⟨show (([(0 : UInt8)].length + us.length : Nat) : Int) ≤ 9223372036854775807 by simp; omega, ?_⟩
    conv => whnf
    refine ⟨show ((([(0 : UInt8)] ++ us).length + [(0 : UInt8)].length : Nat) : Int) ≤ 9223372036854775807 by simp; omega, ?_⟩
    conv => whnf
    refine ⟨show (((([(0 : UInt8)] ++ us) ++ [(0 : UInt8)]).length + wd.length : Nat) : Int) ≤ 9223372036854775807 by simp; omega, ?_⟩
    conv => whnf
    refine stCall2 Go.Proofs.Tryd.func77 rfl (by decide) ?_
    conv => whnf
    refine ⟨.inl rfl, .inr rfl, ?_, Nat.le_of_ble_eq_true rfl, Nat.le_of_ble_eq_true rfl, ?_⟩
    · intro r hr
      obtain rfl := List.mem_singleton.1 hr
      rfl
    conv => whnf
    intro hwL
    refine wpc_drawG2 [8] [] [(7, 8)] (by rfl) (by kernel_rfl) (by kernel_rfl) hwL ?_
    conv => whnf
    exact ⟨_, vw_tk1 (l := (dialM ⟨2, ch, fr, bt, us, wd, ho⟩).2.2) (.inl rfl), tkV_free _, rfl⟩
end Go.Abs.Sig

/-! DV5 -/
namespace Go.Abs.Sig
open Go.RowKit Go.Abs
set_option linter.unusedSimpArgs false
set_option linter.unusedVariables false
set_option maxRecDepth 8000
attribute [local irreducible] StCall StYield WPc Weak IterOf Lp2

theorem vw_tk2 {n es es' : Nat} {fl fl' fl2 : Fl} {a b c d e : Int} {u w o : List UInt8} {x y x' y' : Int} {l l' : List Val'} (h : es = 2 ∨ l = []) (h' : es' = 2 ∨ l' = []) :
    VW n (.tup [.agg [.int .i64 a, .int .i64 b, .int .i64 c, .int .i64 d, .str u, .str w, .str o], .dat 3 [[.int .i64 x, .int .i64 y, .dat es (vals l) fl], [.int .i64 x', .int .i64 y', .dat es' (vals l') fl']] fl2, .int .i64 e]) (tkV (⟨a, b, c, d, u, w, o⟩, [(x, y, l), (x', y', l')], e)) :=
  vw_tup3 vw_hand (vw_mets [(es, fl, x, y, l), (es', fl', x', y', l')] (fun z hz => by
    simp only [List.mem_cons, List.not_mem_nil, or_false] at hz
    rcases hz with rfl | rfl
    · exact h
    · exact h')) (.im _)



set_option maxHeartbeats 4000000 in
theorem dtake2 (G : Nat → Option (List V)) (hG : G 4 = some wV) (ch fr bt : Int) (us wd ho : List UInt8) (c i : Int) (l : List Val') (hm : ∀ v ∈ l, v.2.length ≤ maxStr) :
    Call2 Go.Proofs.Tryd.prog G 21 [.agg (hcells ⟨2, ch, fr, bt, us, wd, ho⟩), .agg (mcells (c, i, l))] [] fun r H' => r.Free ∧ r = tkV (dTake ⟨2, ch, fr, bt, us, wd, ho⟩ (c, i, l)) := by
  have hr := mrightT_ct G hG (c, i, l) hm
  obtain ⟨e, hee⟩ : ∃ e, mright tbv (c, i, l) = e := ⟨_, rfl⟩
  rw [hee] at hr
  refine Call2.weakR ?_
  refine stCall2 Go.Proofs.Tryd.func21 rfl (by decide) ?_
  conv => whnf
  refine Call2.mono (hr _) fun r0 H0 h => ?_
  obtain ⟨h1, h2⟩ := h
  rw [h1, h2]
  clear h1 h2 r0 H0
  conv => whnf
  by_cases he : e ≠ 0
  · refine br_t (decide_eq_true he) ?_
    rw [dTake_bad (by rw [hee]; exact he)]
    conv => whnf
    exact ⟨_, vw_tk0, tkV_free _, rfl⟩
  refine br_f (decide_eq_false he) ?_
  rw [← hee] at he
  rw [dTake_2 he rfl]
  conv => whnf
  intro hwS
  refine wpc_drawG2 [0] [0] [(2, 0)] (by rfl) (by kernel_rfl) (by kernel_rfl) hwS ?_
  conv => whnf
  refine ⟨_, _, 3, states_ct G _, fun i hi => lay_off hi, by simp, ?_⟩
  conv => whnf
  refine stCall2 Go.Proofs.Tryd.func53 rfl (by decide) ?_
  conv => whnf
  refine Call2.mono (dis_ct G _ 4 _ (c, i, l) _ 30 rfl) fun r0 H0 h => ?_
  obtain ⟨h1, h2⟩ := h
  rw [h1, h2]
  clear h1 h2 r0 H0
  conv => whnf
  cases h30 : isC (c, i, l) 30
  · have hdt : dTune ⟨2, ch, fr, bt, us, wd, ho⟩ (c, i, l) = dEnds ⟨2, ch, fr, bt, us, wd, ho⟩ (c, i, l) := if_neg (by rw [h30]; simp)
    rw [hdt]
    conv => whnf
    refine stCall2 Go.Proofs.Tryd.func76 rfl (by decide) ?_
    conv => whnf
    refine Call2.mono (dis_ct G _ 4 _ (c, i, l) _ 50 rfl) fun r0 H0 h => ?_
    obtain ⟨h1, h2⟩ := h
    rw [h1, h2]
    clear h1 h2 r0 H0
    conv => whnf
    unfold dEnds
    cases h50 : isC (c, i, l) 50
    · rw [if_neg (by simp)]
      conv => whnf
      exact ⟨_, vw_tk0, tkV_free _, rfl⟩
    · rw [if_pos rfl]
      conv => whnf
      refine stCall2 Go.Proofs.Tryd.func77 rfl (by decide) ?_
      conv => whnf
      refine ⟨.inl rfl, .inr rfl, ?_, Nat.le_of_ble_eq_true rfl, Nat.le_of_ble_eq_true rfl, ?_⟩
      · intro r hr
        obtain rfl := List.mem_singleton.1 hr
        rfl
      conv => whnf
      intro hwL
      refine wpc_drawG2 [8] [] [(7, 8)] (by rfl) (by kernel_rfl) (by kernel_rfl) hwL ?_
      conv => whnf
      exact ⟨_, vw_tk1 (l := []) (.inr rfl), tkV_free _, rfl⟩
  · have hdt : dTune ⟨2, ch, fr, bt, us, wd, ho⟩ (c, i, l) = dTuneR ⟨2, ch, fr, bt, us, wd, ho⟩ (agreeF ch fr bt (i64 (argOf (c, i, l) 0).1) (i64 (argOf (c, i, l) 1).1) (i64 (argOf (c, i, l) 2).1)) := if_pos h30
    rw [hdt]
    have harg0 := arg_ct G (c, i, l) 0
    have harg1 := arg_ct G (c, i, l) 1
    have harg2 := arg_ct G (c, i, l) 2
    generalize argOf (c, i, l) 0 = a0 at harg0 ⊢
    generalize argOf (c, i, l) 1 = a1 at harg1 ⊢
    generalize argOf (c, i, l) 2 = a2 at harg2 ⊢
    have hag := agree_ct G ch fr bt (i64 a0.1) (i64 a1.1) (i64 a2.1)
    generalize agreeF ch fr bt (i64 a0.1) (i64 a1.1) (i64 a2.1) = x at hag ⊢
    obtain ⟨⟨A, B, C⟩, ee⟩ := x
    conv => whnf
    intro hw
    refine wpc_drawG2 [16, 17] [] [] (by rfl) (by kernel_rfl) (by kernel_rfl) hw ?_
    conv => whnf
    refine ⟨_, fun X _ => dtuneArg_ct G _ _ (c, i, l) _ 0 a0 harg0 rfl rfl, ?_⟩
    conv => whnf
    refine ⟨_, fun X _ => dtuneArg_ct G _ _ (c, i, l) _ 1 a1 harg1 rfl rfl, ?_⟩
    conv => whnf
    refine ⟨_, fun X _ => dtuneArg_ct G _ _ (c, i, l) _ 2 a2 harg2 rfl rfl, ?_⟩
    conv => whnf
    refine ⟨_, fun X _ => hag _, ?_⟩
    conv => whnf
    by_cases hee : ee ≠ 0
    · have hr2 : dTuneR ⟨2, ch, fr, bt, us, wd, ho⟩ ((A, B, C), ee) = (⟨2, ch, fr, bt, us, wd, ho⟩, [], ee) := if_pos hee
      rw [hr2]
      refine br_t (decide_eq_true hee) ?_
      conv => whnf
      refine br_t (decide_eq_true hee) ?_
      conv => whnf
      exact ⟨_, vw_tk0, tkV_free _, rfl⟩
    have hr2 : dTuneR ⟨2, ch, fr, bt, us, wd, ho⟩ ((A, B, C), ee) = (⟨3, A, B, C, us, wd, ho⟩, [(10, 31, [(u64 A, []), (u64 B, []), (u64 C, [])]), (10, 40, [(0, ho), (0, []), (0, [])])], 0) := if_neg hee
    rw [hr2]
    refine br_f (decide_eq_false hee) ?_
    conv => whnf
    intro hw4
    refine wpc_drawG2 [6, 10] [] [(1, 6)] (by rfl) (by kernel_rfl) (by kernel_rfl) hw4 ?_
    conv => whnf
    refine stCall2 Go.Proofs.Tryd.func77 rfl (by decide) ?_
    conv => whnf
    refine ⟨.inl rfl, .inr rfl, ?_, Nat.le_of_ble_eq_true rfl, Nat.le_of_ble_eq_true rfl, ?_⟩
    · intro r hr
      obtain rfl := List.mem_singleton.1 hr
      rfl
    conv => whnf
    intro hw5
    refine wpc_draw2 10 (by rfl) (by decide) (by kernel_rfl) hw5 ?_
    conv => whnf
    refine stCall2 Go.Proofs.Tryd.func77 rfl (by decide) ?_
    conv => whnf
    refine ⟨.inr rfl, .inr rfl, ?_, Nat.le_of_ble_eq_true rfl, Nat.le_of_ble_eq_true rfl, ?_⟩
    · intro r hr
      obtain rfl := List.mem_singleton.1 hr
      rfl
    conv => whnf
    intro hwL
    refine wpc_drawG2 [8] [] [(7, 8)] (by rfl) (by kernel_rfl) (by kernel_rfl) hwL ?_
    conv => whnf
    exact ⟨_, vw_tk2 (l := [(u64 A, []), (u64 B, []), (u64 C, [])]) (l' := [(0, ho), (0, []), (0, [])]) (.inl rfl) (.inl rfl), tkV_free _, rfl⟩
end Go.Abs.Sig

/-! DV6 -/
namespace Go.Abs.Sig
open Go.RowKit Go.Abs
set_option linter.unusedSimpArgs false
set_option linter.unusedVariables false
set_option maxRecDepth 8000
attribute [local irreducible] StCall StYield WPc Weak IterOf Lp2


set_option maxHeartbeats 4000000 in
theorem dtake_ct (G : Nat → Option (List V)) (hG : G 4 = some wV) (h : Hand) (m : Met) (hm : ∀ v ∈ m.2.2, v.2.length ≤ maxStr) (hu : h.us.length ≤ maxStr) (hwd : h.wd.length ≤ maxStr) (H : Heap) :
    Call2 Go.Proofs.Tryd.prog G 21 [.agg (hcells h), .agg (mcells m)] H fun r H' => H' = H ∧ r = tkV (dTake h m) := by
  refine Call2.free (fun x hx => by
    simp only [List.mem_cons, List.not_mem_nil, or_false] at hx
    rcases hx with rfl | rfl
    · exact hcells_free _
    · exact mcells_free _) ?_ H
  obtain ⟨st, ch, fr, bt, us, wd, ho⟩ := h
  obtain ⟨c, i, l⟩ := m
  by_cases hin : 1 ≤ st ∧ st ≤ 6
  · have hst : st = 1 ∨ st = 2 ∨ st = 3 ∨ st = 4 ∨ st = 5 ∨ st = 6 := by omega
    rcases hst with rfl | rfl | rfl | rfl | rfl | rfl
    · exact dtake1 G hG ch fr bt us wd ho c i l hm hu hwd
    · exact dtake2 G hG ch fr bt us wd ho c i l hm
    · exact dtake3 G hG ch fr bt us wd ho c i l hm
    · exact dtake4 G hG ch fr bt us wd ho c i l hm
    · exact dtake5 G hG ch fr bt us wd ho c i l hm
    · exact dtake6 G hG ch fr bt us wd ho c i l hm
  have hr := mrightT_ct G hG (c, i, l) hm
  obtain ⟨e, hee⟩ : ∃ e, mright tbv (c, i, l) = e := ⟨_, rfl⟩
  rw [hee] at hr
  refine Call2.weakR ?_
  refine stCall2 Go.Proofs.Tryd.func21 rfl (by decide) ?_
  conv => whnf
  refine Call2.mono (hr _) fun r0 H0 h => ?_
  obtain ⟨h1, h2⟩ := h
  rw [h1, h2]
  clear h1 h2 r0 H0
  conv => whnf
  by_cases he : e ≠ 0
  · refine br_t (decide_eq_true he) ?_
    rw [dTake_bad (by rw [hee]; exact he)]
    conv => whnf
    exact ⟨_, vw_tk0, tkV_free _, rfl⟩
  refine br_f (decide_eq_false he) ?_
  rw [← hee] at he
  rw [dTake_out he hin]
  have h5 : ¬ st = 5 := by omega
  have h6 : ¬ st = 6 := by omega
  refine br_f (decide_eq_false h5) ?_
  conv => whnf
  refine br_f (decide_eq_false h6) ?_
  conv => whnf
  intro hwS
  refine wpc_drawG2 [0] [0] [(2, 0)] (by rfl) (by kernel_rfl) (by kernel_rfl) hwS ?_
  conv => whnf
  refine ⟨_, _, 3, states_ct G _, fun i hi => lay_off hi, by simp, ?_⟩
  conv => whnf
  rw [show decide ((Hand.mk st ch fr bt us wd ho).st = 1) = false from decide_eq_false (by show ¬ st = 1; omega)]
  conv => whnf
  rw [show decide ((Hand.mk st ch fr bt us wd ho).st = 2) = false from decide_eq_false (by show ¬ st = 2; omega)]
  conv => whnf
  rw [show decide ((Hand.mk st ch fr bt us wd ho).st = 3) = false from decide_eq_false (by show ¬ st = 3; omega)]
  conv => whnf
  rw [show decide ((Hand.mk st ch fr bt us wd ho).st = 4) = false from decide_eq_false (by show ¬ st = 4; omega)]
  conv => whnf
  exact ⟨_, vw_tk0, tkV_free _, rfl⟩
end Go.Abs.Sig

/-! DV7 -/
namespace Go.Abs.Sig
open Go.RowKit Go.Abs
set_option linter.unusedSimpArgs false
set_option linter.unusedVariables false
set_option maxRecDepth 8000
attribute [local irreducible] StCall StYield WPc Weak IterOf Lp2

theorem shown_agree : agreeF 10 8192 30 0 0 60 = ((10, 8192, 30), 0) := by kernel_rfl
theorem shown_offers : offers [65, 32, 80, 76, 65, 73, 78] [80, 76, 65, 73, 78] = true := by kernel_rfl
theorem shown11_ct (G : Nat → Option (List V)) (H : Heap) : Call2 Go.Proofs.Tryd.prog G 20 [] H fun r H' => H' = H ∧ r = .bool true := by
  refine Call2.free (fun x hx => by cases hx) ?_ H
  have hag := agree_ct G 10 8192 30 0 0 60
  rw [shown_agree] at hag
  have hof := offers_ct G [65, 32, 80, 76, 65, 73, 78] [80, 76, 65, 73, 78] (by decide)
  rw [shown_offers] at hof
  refine stCall2 Go.Proofs.Tryd.func20 rfl (by decide) ?_
  conv => whnf
  refine Call2.mono (hag _) fun r0 H0 h => ?_
  obtain ⟨h1, h2⟩ := h
  rw [h1, h2]
  clear h1 h2 r0 H0
  conv => whnf
  refine EqT.eql eqT23 flat23 (eq23 10 8192 30 10 8192 30) ?_
  rw [decide_eq_true ⟨rfl, rfl, rfl⟩]
  conv => whnf
  refine Call2.mono (hof _) fun r0 H0 h => ?_
  obtain ⟨h1, h2⟩ := h
  rw [h1, h2]
  clear h1 h2 r0 H0
  conv => whnf
  exact ⟨.im _, rfl⟩

theorem dtake_law {h : Hand} {m : Met} (h1 : ¬ h.st < 1) (h4 : ¬ h.st > 4) :
    (dTake h m = (h, [], 7)) ∨ (isC m 50 = true ∧ dTake h m = ({ h with st := 6 }, [ok51], 0)) ∨ (isC m 50 = false ∧ dTake h m = (h, [], 16)) ∨
    (m.1 = 10 ∧ isC m 50 = false ∧ (((dTake h m).2.2 ≠ 0 ∧ (dTake h m).1 = h) ∨ ((dTake h m).2.2 = 0 ∧ ((dTake h m).1.st = h.st + 1 ∨ (h.st = 4 ∧ (dTake h m).1 = h))))) := by
  by_cases hr : mright tbv m ≠ 0
  · exact .inl (dTake_bad hr)
  have hends : (isC m 50 = true ∧ dEnds h m = ({ h with st := 6 }, [ok51], 0)) ∨ (isC m 50 = false ∧ dEnds h m = (h, [], 16)) := by
    unfold dEnds
    cases h50 : isC m 50
    · exact .inr ⟨rfl, if_neg (by simp)⟩
    · exact .inl ⟨rfl, if_pos rfl⟩
  have hst : h.st = 1 ∨ h.st = 2 ∨ h.st = 3 ∨ h.st = 4 := by omega
  rcases hst with hs | hs | hs | hs
  · rw [dTake_1 hr hs]
    unfold dStart
    by_cases hc : isC m 10 = true
    · rw [if_pos hc]
      refine .inr (.inr (.inr ⟨(isC_cls hc).1, isC_ne hc (by decide), ?_⟩))
      split
      · exact .inl ⟨by simp, rfl⟩
      · exact .inr ⟨rfl, .inl (by simp only; omega)⟩
    · rw [if_neg hc]
      rcases hends with h | h
      · exact .inr (.inl h)
      · exact .inr (.inr (.inl h))
  · rw [dTake_2 hr hs]
    unfold dTune
    by_cases hc : isC m 30 = true
    · rw [if_pos hc]
      refine .inr (.inr (.inr ⟨(isC_cls hc).1, isC_ne hc (by decide), ?_⟩))
      unfold dTuneR
      split
      · rename_i he
        exact .inl ⟨he, rfl⟩
      · exact .inr ⟨rfl, .inl (by simp only; omega)⟩
    · rw [if_neg hc]
      rcases hends with h | h
      · exact .inr (.inl h)
      · exact .inr (.inr (.inl h))
  · rw [dTake_3 hr hs]
    unfold dOpen
    by_cases hc : isC m 41 = true
    · rw [if_pos hc]
      exact .inr (.inr (.inr ⟨(isC_cls hc).1, isC_ne hc (by decide), .inr ⟨rfl, .inl (by simp only; omega)⟩⟩))
    · rw [if_neg hc]
      rcases hends with h | h
      · exact .inr (.inl h)
      · exact .inr (.inr (.inl h))
  · rw [dTake_4 hr hs]
    unfold dRun
    by_cases hc : isC m 60 = true
    · rw [if_pos hc]
      exact .inr (.inr (.inr ⟨(isC_cls hc).1, isC_ne hc (by decide), .inr ⟨rfl, .inr ⟨hs, rfl⟩⟩⟩))
    rw [if_neg hc]
    by_cases hc : isC m 61 = true
    · rw [if_pos hc]
      exact .inr (.inr (.inr ⟨(isC_cls hc).1, isC_ne hc (by decide), .inr ⟨rfl, .inr ⟨hs, rfl⟩⟩⟩))
    · rw [if_neg hc]
      rcases hends with h | h
      · exact .inr (.inl h)
      · exact .inr (.inr (.inl h))

theorem dialWrong_ct (G : Nat → Option (List V)) (hG : G 4 = some wV) (h : Hand) (m : Met) (hm : ∀ v ∈ m.2.2, v.2.length ≤ maxStr) (hu : h.us.length ≤ maxStr) (hwd : h.wd.length ≤ maxStr) (H : Heap) : Call2 Go.Proofs.Tryd.prog G 9 [.agg (hcells h), .agg (mcells m)] H fun r H' => H' = H ∧ r = .bool true := by
  refine Call2.free (hm_free h m) ?_ H
  have ht := dtake_ct G hG h m hm hu hwd
  have hp := @dtake_law h m
  generalize dTake h m = x at ht hp
  obtain ⟨k, l, e⟩ := x
  obtain ⟨c, i, args⟩ := m
  have h50 : isC (c, i, args) 50 = (decide (c = 10) && decide (i = 50)) := rfl
  rw [h50] at hp
  refine stCall2 Go.Proofs.Tryd.func9 rfl (by decide) ?_
  conv => whnf
  refine Call2.mono (shown11_ct G _) fun r0 H0 h => ?_
  obtain ⟨h1, h2⟩ := h
  rw [h1, h2]
  clear h1 h2 r0 H0
  conv => whnf
  refine Call2.mono (ht _) fun r0 H0 h => ?_
  obtain ⟨h1, h2⟩ := h
  rw [h1, h2]
  clear h1 h2 r0 H0
  conv => whnf
  by_cases h1 : h.st < 1
  · refine br_t (decide_eq_true h1) ?_
    conv => whnf
    exact ⟨.im _, rfl⟩
  refine br_f (decide_eq_false h1) ?_
  conv => whnf
  by_cases h4 : h.st > 4
  · refine br_t (decide_eq_true h4) ?_
    conv => whnf
    exact ⟨.im _, rfl⟩
  refine br_f (decide_eq_false h4) ?_
  conv => whnf
  by_cases h7 : e = 7
  · refine br_t (decide_eq_true h7) ?_
    conv => whnf
    exact ⟨.im _, rfl⟩
  refine br_f (decide_eq_false h7) ?_
  conv => whnf
  have hp := (hp h1 h4).resolve_left (fun h => h7 (congrArg (fun x => x.2.2) h))
  by_cases hc : c ≠ 10
  · have hp2 : (k, l, e) = (h, [], 16) := by
      rcases hp with ⟨h5, _⟩ | ⟨_, h5⟩ | ⟨h5, _⟩
      · simp [hc] at h5
      · exact h5
      · exact absurd h5 hc
    obtain ⟨rfl, rfl, rfl⟩ : k = h ∧ l = [] ∧ e = 16 := by simpa using hp2
    refine br_t (decide_eq_true hc) ?_
    conv => whnf
    refine EqT.eql eqT27 flat27 (eq27 k k) ?_
    rw [decide_eq_true rfl]
    conv => whnf
    exact ⟨.im _, rfl⟩
  refine br_f (decide_eq_false hc) ?_
  have hc : c = 10 := by simpa using hc
  subst hc
  conv => whnf
  by_cases hi : i = 50
  · have hp2 : (k, l, e) = ({ h with st := 6 }, [ok51], 0) := by
      rcases hp with ⟨_, h5⟩ | ⟨h5, _⟩ | ⟨_, h5, _⟩
      · exact h5
      · simp [hi] at h5
      · simp [hi] at h5
    obtain ⟨rfl, rfl, rfl⟩ : k = { h with st := 6 } ∧ l = [ok51] ∧ e = 0 := by simpa using hp2
    refine br_t (decide_eq_true hi) ?_
    conv => whnf
    exact ⟨.im _, rfl⟩
  refine br_f (decide_eq_false hi) ?_
  conv => whnf
  have hp2 : (e ≠ 0 ∧ k = h) ∨ (e = 0 ∧ (k.st = h.st + 1 ∨ (h.st = 4 ∧ k = h))) := by
    rcases hp with ⟨h5, _⟩ | ⟨_, h5⟩ | ⟨_, _, h5⟩
    · simp [hi] at h5
    · obtain ⟨rfl, rfl, rfl⟩ : k = h ∧ l = [] ∧ e = 16 := by simpa using h5
      exact .inl ⟨by decide, rfl⟩
    · exact h5
  rcases hp2 with ⟨h5, rfl⟩ | ⟨rfl, h5⟩
  · refine br_t (decide_eq_true h5) ?_
    conv => whnf
    refine EqT.eql eqT27 flat27 (eq27 k k) ?_
    rw [decide_eq_true rfl]
    conv => whnf
    exact ⟨.im _, rfl⟩
  · conv => whnf
    have hw : IntKind.i64.wrap (h.st + 1) = h.st + 1 := wrap_i64 (by omega) (by omega)
    rw [hw]
    rcases h5 with h5 | ⟨h5, rfl⟩
    · rw [show decide (((k, l, (0 : Int)) : Hand × List Met × Int).fst.st = h.st + 1) = true from decide_eq_true h5]
      conv => whnf
      exact ⟨.im _, rfl⟩
    · rw [show decide (((k, l, (0 : Int)) : Hand × List Met × Int).fst.st = k.st + 1) = false from decide_eq_false (by show ¬ k.st = k.st + 1; omega)]
      conv => whnf
      refine br_t (decide_eq_true h5) ?_
      conv => whnf
      refine EqT.eql eqT27 flat27 (eq27 k k) ?_
      rw [decide_eq_true rfl]
      conv => whnf
      exact ⟨.im _, rfl⟩
end Go.Abs.Sig

/-! SVW -/
namespace Go.Abs.Sig
open Go.RowKit Go.Abs Go.ChangeShapes Go.WideShapes Go.ChangeAt
set_option linter.unusedSimpArgs false
set_option linter.unusedVariables false
set_option maxRecDepth 8000

theorem okMet_metOk {m : Met} (h : OkMet m) : MetOk m := ⟨fun v hv => ⟨(h.2.2.2 v hv).1.1, by have := (h.2.2.2 v hv).1.2; omega⟩, fun v hv => le_maxStr (h.2.2.2 v hv).2⟩

theorem sh_tune {n : Nat} {vs : List V} (h : Sh Go.Proofs.Tryd.prog (n + 2) 23 vs) : ∃ a b c : Int, vs = tcells a b c := by
  obtain ⟨p, q, h1, ⟨p', q', h2, ⟨p'', q'', h3, rfl, rfl⟩, rfl⟩, rfl⟩ := sh_struct Go.Proofs.Tryd.underlying23 h
  obtain ⟨a, rfl, _⟩ := sh_int Go.Proofs.Tryd.underlying3 h1
  obtain ⟨b, rfl, _⟩ := sh_int Go.Proofs.Tryd.underlying3 h2
  obtain ⟨c, rfl, _⟩ := sh_int Go.Proofs.Tryd.underlying3 h3
  exact ⟨a, b, c, rfl⟩
theorem sh_hand {n : Nat} {vs : List V} (h : Sh Go.Proofs.Tryd.prog (n + 3) 27 vs) : ∃ k : Hand, vs = hcells k := by
  obtain ⟨p, q, h1, ⟨p', q', h2, ⟨p'', q'', h3, ⟨p3, q3, h4, ⟨p4, q4, h5, rfl, rfl⟩, rfl⟩, rfl⟩, rfl⟩, rfl⟩ := sh_struct Go.Proofs.Tryd.underlying27 h
  obtain ⟨s, rfl, _⟩ := sh_int Go.Proofs.Tryd.underlying3 h1
  obtain ⟨a, b, c, rfl⟩ := sh_tune h2
  obtain ⟨u, rfl, _⟩ := sh_str Go.Proofs.Tryd.underlying9 h3
  obtain ⟨w, rfl, _⟩ := sh_str Go.Proofs.Tryd.underlying9 h4
  obtain ⟨o, rfl, _⟩ := sh_str Go.Proofs.Tryd.underlying9 h5
  exact ⟨⟨s, a, b, c, u, w, o⟩, rfl⟩
theorem shv_hand {n : Nat} {x : V} (h : ShV Go.Proofs.Tryd.prog (n + 3) 27 x) : ∃ k : Hand, x = .agg (hcells k) := by
  have ha : aggT Go.Proofs.Tryd.prog 27 = true := by kernel_rfl
  unfold ShV at h
  rw [ha] at h
  obtain ⟨vs, rfl, h⟩ := h
  obtain ⟨k, rfl⟩ := sh_hand h
  exact ⟨k, rfl⟩
theorem shv_tune {n : Nat} {x : V} (h : ShV Go.Proofs.Tryd.prog (n + 2) 23 x) : ∃ a b c : Int, x = .agg (tcells a b c) := by
  have ha : aggT Go.Proofs.Tryd.prog 23 = true := by kernel_rfl
  unfold ShV at h
  rw [ha] at h
  obtain ⟨vs, rfl, h⟩ := h
  obtain ⟨a, b, c, rfl⟩ := sh_tune h
  exact ⟨a, b, c, rfl⟩
theorem shv_mets {n : Nat} {x : V} (h : ShV Go.Proofs.Tryd.prog (n + 5) 24 x) : ∃ l : List Met, x = .dat 3 (mrows l) .no ∧ ∀ m ∈ l, OkMet m := by
  have ha : aggT Go.Proofs.Tryd.prog 24 = false := by kernel_rfl
  unfold ShV at h
  rw [ha] at h
  obtain ⟨rows, h1, hr, he⟩ := sh_slice Go.Proofs.Tryd.underlying24 h
  have hc : Program.cellsOf Go.Proofs.Tryd.prog 37 = 3 := by kernel_rfl
  rw [hc] at h1
  obtain ⟨l, rfl, hl⟩ := rows_of (f := mcells) rows fun r hr => sh_met (he r hr)
  rw [List.cons.injEq] at h1
  exact ⟨l, h1.1, hl⟩

theorem serveRises_walk (xs : List V) (h : ShAll Go.Proofs.Tryd.prog 8 (#[23, 24] : Array TypeId).toList xs) : Call2 Go.Proofs.Tryd.prog GW 3 xs [] fun r H' => H' = [] ∧ r = .bool true := by
  obtain ⟨x1, r1, h1, ⟨x2, r2, h2, rfl, rfl⟩, rfl⟩ := h
  obtain ⟨a, b, c, rfl⟩ := shv_tune h1
  obtain ⟨l, rfl, hl⟩ := shv_mets h2
  exact serveRises_ct GW GW4 a b c l (fun m hm => okMet_metOk (hl m hm)) []
theorem serveAgrees_walk (xs : List V) (h : ShAll Go.Proofs.Tryd.prog 8 (#[41] : Array TypeId).toList xs) : Call2 Go.Proofs.Tryd.prog GW 4 xs [] fun r H' => H' = [] ∧ r = .bool true := by
  obtain ⟨x1, r1, h1, rfl, rfl⟩ := h
  have ha : aggT Go.Proofs.Tryd.prog 41 = true := by kernel_rfl
  unfold ShV at h1
  rw [ha] at h1
  obtain ⟨vs, rfl, h⟩ := h1
  obtain ⟨p, q, h1, ⟨p', q', h2, ⟨p'', q'', h3, ⟨p3, q3, h4, rfl, rfl⟩, rfl⟩, rfl⟩, rfl⟩ := sh_struct Go.Proofs.Tryd.underlying41 h
  obtain ⟨k, rfl⟩ := sh_hand h1
  obtain ⟨c, rfl, _⟩ := sh_int Go.Proofs.Tryd.underlying3 h2
  obtain ⟨f, rfl, _⟩ := sh_int Go.Proofs.Tryd.underlying3 h3
  obtain ⟨b, rfl, _⟩ := sh_int Go.Proofs.Tryd.underlying3 h4
  exact serveAgrees_ct GW GW4 k c f b []
theorem serveWrong_walk (xs : List V) (h : ShAll Go.Proofs.Tryd.prog 8 (#[27, 37] : Array TypeId).toList xs) : Call2 Go.Proofs.Tryd.prog GW 5 xs [] fun r H' => H' = [] ∧ r = .bool true := by
  obtain ⟨x1, r1, h1, ⟨x2, r2, h2, rfl, rfl⟩, rfl⟩ := h
  obtain ⟨k, rfl⟩ := shv_hand h1
  obtain ⟨m, rfl, hm⟩ := shv_met h2
  exact serveWrong_ct GW GW4 k m (okMet_metOk hm).2 []
theorem serveNames_walk (xs : List V) (h : ShAll Go.Proofs.Tryd.prog 8 (#[27, 37] : Array TypeId).toList xs) : Call2 Go.Proofs.Tryd.prog GW 6 xs [] fun r H' => H' = [] ∧ r = .bool true := by
  obtain ⟨x1, r1, h1, ⟨x2, r2, h2, rfl, rfl⟩, rfl⟩ := h
  obtain ⟨k, rfl⟩ := shv_hand h1
  obtain ⟨m, rfl, hm⟩ := shv_met h2
  exact serveNames_ct GW GW4 k m (okMet_metOk hm).2 []
theorem serveGreets_walk (xs : List V) (h : ShAll Go.Proofs.Tryd.prog 8 (#[27] : Array TypeId).toList xs) : Call2 Go.Proofs.Tryd.prog GW 7 xs [] fun r H' => H' = [] ∧ r = .bool true := by
  obtain ⟨x1, r1, h1, rfl, rfl⟩ := h
  obtain ⟨k, rfl⟩ := shv_hand h1
  exact serveGreets_ct GW GW4 k []
theorem serveShuts_walk (xs : List V) (h : ShAll Go.Proofs.Tryd.prog 8 (#[49] : Array TypeId).toList xs) : Call2 Go.Proofs.Tryd.prog GC 8 xs [] fun r H' => H' = [] ∧ r = .bool true := by
  obtain ⟨x1, r1, h1, rfl, rfl⟩ := h
  have ha : aggT Go.Proofs.Tryd.prog 49 = true := by kernel_rfl
  unfold ShV at h1
  rw [ha] at h1
  obtain ⟨vs, rfl, h⟩ := h1
  obtain ⟨p, q, h1, ⟨p', q', h2, ⟨p'', q'', h3, ⟨p3, q3, h4, ⟨p4, q4, h5, rfl, rfl⟩, rfl⟩, rfl⟩, rfl⟩, rfl⟩ := sh_struct Go.Proofs.Tryd.underlying49 h
  obtain ⟨k, rfl⟩ := sh_hand h1
  obtain ⟨e, rfl, _⟩ := sh_int Go.Proofs.Tryd.underlying28 h2
  obtain ⟨c, rfl, _⟩ := sh_int Go.Proofs.Tryd.underlying3 h3
  obtain ⟨i, rfl, _⟩ := sh_int Go.Proofs.Tryd.underlying3 h4
  obtain ⟨m, rfl, hm⟩ := sh_met h5
  rw [show hcells k ++ ([V.im (.int .i64 e)] ++ ([V.im (.int .i64 c)] ++ ([V.im (.int .i64 i)] ++ (mcells m ++ [])))) = shCells k e c i m by simp [shCells]]
  exact serveShuts_ct k e c i m (okMet_metOk hm).2 []
end Go.Abs.Sig

/-! DVG -/
namespace Go.Abs.Sig
open Go.RowKit Go.Abs Go.ChangeShapes Go.WideShapes Go.ChangeAt
set_option linter.unusedSimpArgs false
set_option linter.unusedVariables false
set_option maxRecDepth 8000

def laidD : List (String × DataW Unit) := [("unicode/utf8.acceptRanges", Go.Proofs.YtfmankbemjcfeaaDoor.Rows.laid_unicode_utf8_acceptRanges), ("interchange/num.widths", Go.Proofs.YtfmankbemjcfeaaDoor.Rows.laid_interchange_num_widths), ("unicode/utf8.first", Go.Proofs.YtfmankbemjcfeaaDoor.Rows.laid_unicode_utf8_first)]

theorem glob_GD {W : World} (h : laidMetH Go.Proofs.Tryd.prog laidD W) : ∀ g cs, GW g = some cs → Rep W (Env.all W) (.rp cs) (.pointer (some ⟨g, 0, none⟩)) := by
  intro g cs hg
  rw [MakeChecks.laidMetH_plain _ _ _ (by kernel_rfl)] at h
  obtain ⟨ps, ⟨g1, t1, cs1, f1, p1, q1, hg1, ht1, hv1, hd1, ⟨g0, t0, cs0, f0, p0, q0, hg0, ht0, hv0, hd0, _, _⟩, _⟩, _, _⟩ := h
  obtain rfl := Option.some.inj (gW.symm.trans hg0)
  obtain rfl := Option.some.inj (tW.symm.trans ht0)
  have hcell : ∀ j, W.cell? ⟨4, j, none⟩ = cs0[j]? := fun j => World.var?_cell hg0 hv0 j
  unfold GW at hg
  split at hg
  · rename_i h1
    subst h1
    obtain rfl : wV = cs := Option.some.inj hg
    refine rep_glob (fun j => (W.cell? ⟨4, j, none⟩).getD (.int .i64 0)) fun j v hv => ?_
    have hj : j < 4 := (List.getElem?_eq_some_iff.1 hv).1
    obtain ⟨n, hr⟩ : ∃ n, wInts[j]? = some n := ⟨_, List.getElem?_eq_getElem (by show j < 4; exact hj)⟩
    have c0 := w_cells hd0 j n hr
    have hv' : v = .int .i64 n := by
      have : wV = wInts.map fun n => V.int .i64 n := rfl
      rw [this, List.getElem?_map, hr] at hv
      exact (Option.some.inj hv).symm
    have hc : cs0[j]? = some (.int .i64 n) := by simpa using c0
    rw [hcell j, hc, hv']
    exact ⟨rfl, rfl⟩
  · cases hg


/-- A start that meets the condition. -/
theorem startD_met (os : Os) (args : Array Value) : laidMetH Go.Proofs.Tryd.prog laidD ((World.laidAll Go.Proofs.Tryd.prog os laidD).forCall (fun _ _ => 0) ⟨#[], args, []⟩).memory := by
  rw [MakeChecks.laidMetH_plain _ _ _ (by kernel_rfl)]
  exact laidMet_laidAll _ (by kernel_rfl) (by kernel_rfl)
theorem le_maxStr48 {n : Nat} (h : n < 281474976710656) : n ≤ maxStr := by unfold maxStr; omega
theorem sh_hand' {n : Nat} {vs : List V} (h : Sh Go.Proofs.Tryd.prog (n + 3) 27 vs) : ∃ k : Hand, vs = hcells k ∧ k.us.length ≤ maxStr ∧ k.wd.length ≤ maxStr ∧ k.ho.length ≤ maxStr := by
  obtain ⟨p, q, h1, ⟨p', q', h2, ⟨p'', q'', h3, ⟨p3, q3, h4, ⟨p4, q4, h5, rfl, rfl⟩, rfl⟩, rfl⟩, rfl⟩, rfl⟩ := sh_struct Go.Proofs.Tryd.underlying27 h
  obtain ⟨s, rfl, _⟩ := sh_int Go.Proofs.Tryd.underlying3 h1
  obtain ⟨a, b, c, rfl⟩ := sh_tune h2
  obtain ⟨u, rfl, hu⟩ := sh_str Go.Proofs.Tryd.underlying9 h3
  obtain ⟨w, rfl, hw⟩ := sh_str Go.Proofs.Tryd.underlying9 h4
  obtain ⟨o, rfl, ho⟩ := sh_str Go.Proofs.Tryd.underlying9 h5
  exact ⟨⟨s, a, b, c, u, w, o⟩, rfl, le_maxStr hu, le_maxStr hw, le_maxStr ho⟩
theorem dialWrong_walk (xs : List V) (h : ShAll Go.Proofs.Tryd.prog 8 (#[27, 37] : Array TypeId).toList xs) : Call2 Go.Proofs.Tryd.prog GW 9 xs [] fun r H' => H' = [] ∧ r = .bool true := by
  obtain ⟨x1, r1, h1, ⟨x2, r2, h2, rfl, rfl⟩, rfl⟩ := h
  have ha : aggT Go.Proofs.Tryd.prog 27 = true := by kernel_rfl
  unfold ShV at h1
  rw [ha] at h1
  obtain ⟨vs, rfl, h⟩ := h1
  obtain ⟨k, rfl, hu, hw, _⟩ := sh_hand' h
  obtain ⟨m, rfl, hm⟩ := shv_met h2
  exact dialWrong_ct GW GW4 k m (okMet_metOk hm).2 hu hw []
end Go.Abs.Sig

/-! DV8 -/
namespace Go.Abs.Sig
open Go.RowKit Go.Abs
set_option linter.unusedSimpArgs false
set_option linter.unusedVariables false
set_option maxRecDepth 8000
attribute [local irreducible] StCall StYield WPc Weak IterOf Lp2

/-! ### Begin -/
def dBegin (ch fr bt : Int) (us wd ho : List UInt8) : Hand × Int :=
  if tR ch fr bt = false ∨ ho.length > 255 ∨ 0 ≤ ixB (us ++ wd) 0 then (zHand, 1) else (⟨1, ch, fr, bt, us, wd, ho⟩, 0)
theorem dbegin_ct (G : Nat → Option (List V)) (ch fr bt : Int) (us wd ho : List UInt8) (hu : us.length ≤ maxStr) (hwd : wd.length ≤ maxStr) (H : Heap) : Call2 Go.Proofs.Tryd.prog G 22 [.agg (tcells ch fr bt), .str us, .str wd, .str ho] H fun r H' => H' = H ∧
    r = .tup [.agg (hcells (dBegin ch fr bt us wd ho).1), .int .i64 (dBegin ch fr bt us wd ho).2] := by
  refine Call2.free (fun x hx => by
    simp only [List.mem_cons, List.not_mem_nil, or_false] at hx
    rcases hx with rfl | rfl | rfl | rfl
    · exact tcells_free _ _ _
    · exact .str _
    · exact .str _
    · exact .str _) ?_ H
  simp only [maxStr] at hu hwd
  unfold dBegin
  refine stCall2 Go.Proofs.Tryd.func22 rfl (by decide) ?_
  conv => whnf
  refine Call2.mono (sright_ct G ch fr bt _) fun r0 H0 h => ?_
  obtain ⟨h1, h2⟩ := h
  rw [h1, h2]
  clear h1 h2 r0 H0
  conv => whnf
  cases h1 : tR ch fr bt
  · rw [if_pos (.inl rfl)]
    conv => whnf
    exact ⟨free_tup2 (hcells_free zHand) (.im _), rfl⟩
  conv => whnf
  by_cases h2 : (ho.length : Int) > 255
  · rw [if_pos (.inr (.inl (by omega)))]
    refine br_t (decide_eq_true h2) ?_
    conv => whnf
    exact ⟨free_tup2 (hcells_free zHand) (.im _), rfl⟩
  refine br_f (decide_eq_false h2) ?_
  conv => whnf
  refine ⟨show ((us.length + wd.length : Nat) : Int) ≤ 9223372036854775807 by omega, ?_⟩
  conv => whnf
  refine Call2.mono (contains1_ct G (us ++ wd) 0 _) fun r0 H0 h => ?_
  obtain ⟨h1, h2⟩ := h
  rw [h1, h2]
  clear h1 h2 r0 H0
  conv => whnf
  by_cases h3 : 0 ≤ ixB (us ++ wd) 0
  · rw [if_pos (.inr (.inr h3))]
    refine br_t (decide_eq_true h3) ?_
    conv => whnf
    exact ⟨free_tup2 (hcells_free zHand) (.im _), rfl⟩
  · rw [if_neg (fun h => by
      rcases h with h | h | h
      · cases h
      · omega
      · exact h3 h)]
    refine br_f (decide_eq_false h3) ?_
    conv => whnf
    exact ⟨free_tup2 (hcells_free ⟨1, ch, fr, bt, us, wd, ho⟩) (.im _), rfl⟩

/-! ### what is kept -/
def DHandOk (user : List UInt8) (h : Hand) : Prop := HandOk h ∧ h.us = user ∧ h.wd = [119] ∧ h.ho = [47]
theorem dialM_right {user : List UInt8} (hu : user.length ≤ 1000) (h : Hand) (h1 : h.us = user) (h2 : h.wd = [119]) : allR [dialM h] = true ∧ ∀ m ∈ [dialM h], MetOk m := by
  unfold dialM
  rw [h1, h2]
  have hx : ([0] ++ user ++ [0] ++ [119] : List UInt8).length ≤ 1003 := by simp; omega
  generalize ([0] ++ user ++ [0] ++ [119] : List UInt8) = x at hx
  have hw : wt 131072 (0, x) = 0 := by
    unfold wt
    rw [decide_eq_false (by simp only; omega)]
    rfl
  have e1 : isAt 10 11 = true := by kernel_rfl
  have e2 : (rowAt 10 11).2.2.1 = [84, 83, 76, 83] := by kernel_rfl
  have a1 : rl tbv 84 (0, [0, 0, 0, 0]) = 0 := by kernel_rfl
  have a2 : rl tbv 83 (0, PLAIN) = 0 := by kernel_rfl
  have a3 : rl tbv 76 (0, x) = 0 := hw
  have a4 : rl tbv 83 (0, [101, 110, 95, 85, 83]) = 0 := by kernel_rfl
  refine ⟨?_, ?_⟩
  · unfold allR
    have : mright tbv (10, 11, [(0, [0, 0, 0, 0]), (0, PLAIN), (0, x), (0, [101, 110, 95, 85, 83])]) = 0 := by
      rw [mright_zero]
      refine ⟨e1, by rw [e2]; rfl, ?_⟩
      show vright tbv (rowAt 10 11).2.2.1 _ = 0
      rw [e2]
      simp only [vright, a1, a2, a3, a4]
      simp
    simp [this]
  · intro m hm
    obtain rfl := List.mem_singleton.1 hm
    unfold MetOk Rng
    simp only [List.mem_cons, List.not_mem_nil, or_false]
    refine ⟨?_, ?_⟩
    · rintro v (rfl | rfl | rfl | rfl) <;> simp only <;> omega
    · rintro v (rfl | rfl | rfl | rfl)
      · decide
      · decide
      · simp only [maxStr]; omega
      · decide
theorem lesser_in {a b lo hi : Int} (ha : lo ≤ a ∧ a ≤ hi) (hb : b = 0 ∨ lo ≤ b) : lo ≤ lesserF a b ∧ lesserF a b ≤ hi := by
  unfold lesserF
  split
  · exact ha
  · split <;> omega
theorem tuneOk_right {h : Hand} {A B C : Int} (ht : tR A B C = true) (hho : h.ho = [47]) : allR [(10, 31, [(u64 A, []), (u64 B, []), (u64 C, [])]), (10, 40, [(0, h.ho), (0, []), (0, [])])] = true ∧
    ∀ m ∈ [((10, 31, [(u64 A, []), (u64 B, []), (u64 C, [])]) : Met), (10, 40, [(0, h.ho), (0, []), (0, [])])], MetOk m := by
  rw [tR_iff] at ht
  rw [hho, u64_id' (n := A) (by omega) (by omega), u64_id' (n := B) (by omega) (by omega), u64_id' (n := C) (by omega) (by omega)]
  have hk : mright tbv (10, 40, [(0, [47]), (0, []), (0, [])]) = 0 := by kernel_rfl
  refine ⟨?_, ?_⟩
  · unfold allR
    simp [mright_sls (i := 31) (.inr rfl) (a := A) (b := B) (c := C) (by omega) (by omega) (by omega), hk]
  · intro m hm
    simp only [List.mem_cons, List.not_mem_nil, or_false] at hm
    rcases hm with rfl | rfl
    · unfold MetOk Rng
      simp only [List.mem_cons, List.not_mem_nil, or_false]
      refine ⟨?_, ?_⟩
      · rintro v (rfl | rfl | rfl) <;> simp only <;> omega
      · rintro v (rfl | rfl | rfl) <;> simp
    · unfold MetOk Rng
      decide
theorem drises_law {user : List UInt8} (hu : user.length ≤ 1000) {h : Hand} (hh : DHandOk user h) {m : Met} (hm : MetOk m) {k : Hand} {l : List Met} {e : Int} (hx : dTake h m = (k, l, e)) :
    (allR l = true ∧ ∀ m ∈ l, MetOk m) ∧ h.st ≤ k.st ∧ (e ≠ 0 → k = h ∧ l = []) ∧ DHandOk user k ∧ l.length ≤ 2 := by
  obtain ⟨⟨hs, ht⟩, q1, q2, q3⟩ := hh
  have nil : allR [] = true ∧ ∀ m ∈ ([] : List Met), MetOk m := ⟨rfl, fun m h => by cases h⟩
  have ends : ∀ {k l e}, dEnds h m = (k, l, e) → (allR l = true ∧ ∀ m ∈ l, MetOk m) ∧ h.st ≤ k.st ∧ (e ≠ 0 → k = h ∧ l = []) ∧ DHandOk user k ∧ l.length ≤ 2 := by
    intro k l e hx
    unfold dEnds at hx
    split at hx
    · cases hx
      exact ⟨⟨ok51_right, ok51_ok⟩, hs.2, fun h => absurd rfl h, ⟨⟨by simp only; omega, ht⟩, q1, q2, q3⟩, by decide⟩
    · cases hx
      exact ⟨nil, Int.le_refl _, fun _ => ⟨rfl, rfl⟩, ⟨⟨hs, ht⟩, q1, q2, q3⟩, by decide⟩
  have same : ∀ e : Int, (allR ([] : List Met) = true ∧ ∀ m ∈ ([] : List Met), MetOk m) ∧ h.st ≤ h.st ∧ (e ≠ 0 → h = h ∧ ([] : List Met) = []) ∧ DHandOk user h ∧ ([] : List Met).length ≤ 2 :=
    fun e => ⟨nil, Int.le_refl _, fun _ => ⟨rfl, rfl⟩, ⟨⟨hs, ht⟩, q1, q2, q3⟩, by decide⟩
  by_cases hr : mright tbv m ≠ 0
  · rw [dTake_bad hr] at hx
    cases hx
    exact same _
  by_cases h56 : h.st = 5 ∨ h.st = 6
  · rw [dTake_56 hr h56] at hx
    rcases closing_law (m := m) h56 with h1 | ⟨_, ⟨_, h5, h1⟩ | ⟨_, h5, h1⟩ | h1⟩ <;> (rw [h1] at hx; cases hx)
    · exact same _
    · exact ⟨nil, hs.2, fun h => absurd rfl h, ⟨⟨by simp only; omega, ht⟩, q1, q2, q3⟩, by decide⟩
    · exact ⟨⟨ok51_right, ok51_ok⟩, Int.le_refl _, fun h => absurd rfl h, ⟨⟨hs, ht⟩, q1, q2, q3⟩, by decide⟩
    · exact same _
  have hst : h.st = 1 ∨ h.st = 2 ∨ h.st = 3 ∨ h.st = 4 := by omega
  rcases hst with h1 | h1 | h1 | h1
  · rw [dTake_1 hr h1] at hx
    unfold dStart at hx
    split at hx
    · split at hx
      · cases hx; exact same _
      · cases hx
        exact ⟨dialM_right hu h q1 q2, by simp only; omega, fun h => absurd rfl h, ⟨⟨by simp only; omega, ht⟩, q1, q2, q3⟩, Nat.le_succ 1⟩
    · exact ends hx
  · rw [dTake_2 hr h1] at hx
    unfold dTune at hx
    split at hx
    · rename_i hc
      obtain ⟨c, i, args⟩ := m
      obtain ⟨rfl, rfl⟩ := isC_cls hc
      obtain ⟨x, y, z, hl, hx0, hy0, hz0⟩ := mright_sls_bd (.inl rfl) hm.1 (by simpa using hr)
      change args = [x, y, z] at hl
      subst hl
      have a0 : i64 (argOf (10, 30, [x, y, z]) 0).1 = x.1 := by
        show i64 x.1 = x.1
        exact i64_id hx0.1 (by omega)
      have a1 : i64 (argOf (10, 30, [x, y, z]) 1).1 = y.1 := by
        show i64 y.1 = y.1
        exact i64_id hy0.1 (by omega)
      have a2 : i64 (argOf (10, 30, [x, y, z]) 2).1 = z.1 := by
        show i64 z.1 = z.1
        exact i64_id hz0.1 (by omega)
      rw [a0, a1, a2] at hx
      unfold agreeF at hx
      split at hx
      · unfold dTuneR at hx
        rw [if_pos (by decide)] at hx
        cases hx; exact same _
      split at hx
      · unfold dTuneR at hx
        rw [if_pos (by decide)] at hx
        cases hx; exact same _
      · rename_i hbad
        unfold dTuneR at hx
        rw [if_neg (fun h => h rfl)] at hx
        have hT : tR (lesserF h.ch x.1) (lesserF h.fr y.1) (if z.1 < h.bt then z.1 else h.bt) = true := by
          rw [tR_iff] at ht ⊢
          refine ⟨lesser_in ht.1 (by omega), lesser_in ht.2.1 (by omega), ?_⟩
          split <;> omega
        cases hx
        exact ⟨tuneOk_right (h := h) hT q3, by simp only; omega, fun h => absurd rfl h, ⟨⟨by simp only; omega, hT⟩, q1, q2, q3⟩, Nat.le_refl 2⟩
    · exact ends hx
  · rw [dTake_3 hr h1] at hx
    unfold dOpen at hx
    split at hx
    · cases hx
      exact ⟨nil, by simp only; omega, fun h => absurd rfl h, ⟨⟨by simp only; omega, ht⟩, q1, q2, q3⟩, by decide⟩
    · exact ends hx
  · rw [dTake_4 hr h1] at hx
    unfold dRun at hx
    split at hx
    · cases hx; exact same _
    · split at hx
      · cases hx; exact same _
      · exact ends hx
end Go.Abs.Sig

/-! DV9 -/
namespace Go.Abs.Sig
open Go.RowKit Go.Abs
set_option linter.unusedSimpArgs false
set_option linter.unusedVariables false
set_option maxRecDepth 8000
attribute [local irreducible] StCall StYield WPc Weak IterOf Lp2

def drS (ch fr bt : Int) (us : List UInt8) (ms : List Met) (h : Hand) (j : Nat) : S2 :=
  headS 83 ([.bad, .str us, .dat 3 (mrows ms) .no, .bad, .bad, .bad, .bad, .im (.bool true), .ptr 1 0, .bad, .int .i64 (j : Int)] ++ List.replicate 72 .bad) [some (.cells 23 (tcells ch fr bt)), some (.cells 27 (hcells h))] [] none
set_option maxHeartbeats 4000000 in
theorem dialRises_ct (G : Nat → Option (List V)) (hG : G 4 = some wV) (ch fr bt : Int) (us : List UInt8) (hus : us.length ≤ maxStr) (ms : List Met) (hms : ∀ m ∈ ms, MetOk m) (H : Heap) : Call2 Go.Proofs.Tryd.prog G 10 [.agg (tcells ch fr bt), .str us, .dat 3 (mrows ms) .no] H fun r H' => H' = H ∧ r = .bool true := by
  refine Call2.free (fun x hx => by
    simp only [List.mem_cons, List.not_mem_nil, or_false] at hx
    rcases hx with rfl | rfl | rfl
    · exact tcells_free _ _ _
    · exact .str _
    · exact mrows_free _) ?_ H
  have hml : (mrows ms).length = ms.length := by simp [mrows]
  have hb := dbegin_ct G ch fr bt us [119] [47] hus (by decide)
  unfold dBegin at hb
  refine stCall2 Go.Proofs.Tryd.func10 rfl (by decide) ?_
  conv => whnf
  refine Call2.mono (shown11_ct G _) fun r0 H0 h => ?_
  obtain ⟨h1, h2⟩ := h
  rw [h1, h2]
  clear h1 h2 r0 H0
  conv => whnf
  by_cases hbad : tR ch fr bt = false ∨ ([47] : List UInt8).length > 255 ∨ 0 ≤ ixB (us ++ [119]) 0
  · rw [if_pos hbad] at hb
    refine Call2.mono (hb _) fun r0 H0 h => ?_
    obtain ⟨h1, h2⟩ := h
    rw [h1, h2]
    clear h1 h2 r0 H0
    conv => whnf
    exact ⟨.im _, rfl⟩
  rw [if_neg hbad] at hb
  have hT : tR ch fr bt = true := by
    cases h : tR ch fr bt
    · exact absurd (.inl h) hbad
    · rfl
  clear hbad
  refine Call2.mono (hb _) fun r0 H0 h => ?_
  obtain ⟨h1, h2⟩ := h
  rw [h1, h2]
  clear h1 h2 r0 H0
  conv => whnf
  rw [hml]
  by_cases h60 : (ms.length : Int) > 60
  · refine br_t (decide_eq_true h60) ?_
    conv => whnf
    exact ⟨.im _, rfl⟩
  refine br_f (decide_eq_false h60) ?_
  conv => whnf
  by_cases hul : (us.length : Int) > 1000
  · refine br_t (decide_eq_true hul) ?_
    conv => whnf
    exact ⟨.im _, rfl⟩
  refine br_f (decide_eq_false hul) ?_
  have hul : us.length ≤ 1000 := by omega
  conv => whnf
  intro hw
  refine wpc_loop2 (fun n1 s1 => ∃ (j : Nat) (h : Hand), j ≤ ms.length ∧ n1 = ms.length - j ∧ s1 = drS ch fr bt us ms h j ∧ DHandOk us h) ms.length (drS ch fr bt us ms ⟨1, ch, fr, bt, us, [119], [47]⟩ 0) ?_ ⟨0, _, by omega, rfl, rfl, ⟨⟨Int.le_refl _, (show (1 : Int) ≤ 6 by decide)⟩, hT⟩, rfl, rfl, rfl⟩ ?_ ?_
  · exact weak2 hw rfl ⟨.str _, .dat _ _ _, .im _, .ptr 1 0 (show 1 < 2 by decide), .im _, trivial⟩ (.cons (.free (tcells_free' ch fr bt)) (.cons (.free (hcells_free' ⟨1, ch, fr, bt, us, [119], [47]⟩)) (.nil _))) (fun id hid => by cases hid) rfl (fun id hid => by cases hid)
  · rintro n1 s1 ⟨j, h, _, _, rfl, _⟩
    exact ⟨⟨Nat.le_refl 83, fun x hx => by cases hx⟩, rfl, Nat.le_refl _, rfl⟩
  · rintro n1 s1 ⟨j, h, hj, rfl, rfl, hok⟩
    by_cases hjl : j < ms.length
    · obtain ⟨m, hmj⟩ : ∃ m, ms[j]? = some m := ⟨_, List.getElem?_eq_getElem hjl⟩
      have hgj := mrows_get hmj
      have hgd : (true && true && decide ((0 : Int) ≤ (j : Int))) = true := by simp
      have hwj : IntKind.i64.wrap ((j : Int) + 1) = ((j + 1 : Nat) : Int) := by rw [wrap_i64 (by omega) (by omega)]; rfl
      have hmm := hms m (List.mem_of_getElem? hmj)
      have hu2 : h.us.length ≤ maxStr := by rw [hok.2.1]; exact hus
      have hw2 : h.wd.length ≤ maxStr := by rw [hok.2.2.1]; decide
      have ht := dtake_ct G hG h m hmm.2 hu2 hw2
      have hlaw := fun k l e => drises_law hul hok hmm (k := k) (l := l) (e := e)
      generalize dTake h m = x at ht hlaw
      obtain ⟨k, l, e⟩ := x
      obtain ⟨⟨p1, p2⟩, p3, p4, p5, hlen⟩ := hlaw k l e rfl
      have p6 : l.length ≤ 140737488355328 := by omega
      conv => whnf
      rw [hml]
      refine br_t (decide_eq_true (by omega)) ?_
      conv => whnf
      intro hwD
      refine wpc_drawG2 [10, 11] [] [] (by rfl) (by kernel_rfl) (by kernel_rfl) hwD ?_
      conv => whnf
      refine grd_intro hgd (optK_intro hgj ?_)
      conv => whnf
      refine ⟨_, fun X _ => ht _, ?_⟩
      conv => whnf
      have hrr := rrights_ct G l p2 p6
      rw [p1] at hrr
      refine Call2.mono (hrr _) fun r0 H0 h => ?_
      obtain ⟨h1, h2⟩ := h
      rw [h1, h2]
      clear h1 h2 r0 H0
      conv => whnf
      refine br_f (decide_eq_false (show ¬ k.st < h.st by omega)) ?_
      conv => whnf
      by_cases he : e ≠ 0
      · obtain ⟨rfl, rfl⟩ := p4 he
        refine br_t (decide_eq_true he) ?_
        conv => whnf
        refine EqT.neq eqT27 flat27 (eq27 k k) ?_
        rw [decide_eq_true rfl]
        conv => whnf
        intro hw2
        refine ⟨ms.length - (j + 1), drS ch fr bt us ms k (j + 1), by omega, ?_, j + 1, k, by omega, rfl, rfl, p5⟩
        exact weak2 hw2 rfl ⟨.str _, .dat _ _ _, .im _, .ptr 1 0 (show 1 < 2 by decide), .int hwj, trivial⟩ (.cons (.free (tcells_free' ch fr bt)) (.cons (.free (hcells_free' k)) (.nil _))) (fun id hid => by cases hid) rfl (fun id hid => by cases hid)
      · refine br_f (decide_eq_false he) ?_
        conv => whnf
        intro hw2
        refine ⟨ms.length - (j + 1), drS ch fr bt us ms k (j + 1), by omega, ?_, j + 1, k, by omega, rfl, rfl, p5⟩
        exact weak2 hw2 rfl ⟨.str _, .dat _ _ _, .im _, .ptr 1 0 (show 1 < 2 by decide), .int hwj, trivial⟩ (.cons (.free (tcells_free' ch fr bt)) (.cons (.free (hcells_free' k)) (.nil _))) (fun id hid => by cases hid) rfl (fun id hid => by cases hid)
    · have hje : j = ms.length := by omega
      conv => whnf
      rw [hml]
      refine br_f (decide_eq_false (by omega)) ?_
      conv => whnf
      refine Call2.mono (rright10_ct G h.ch h.fr h.bt _) fun r0 H0 h => ?_
      obtain ⟨h1, h2⟩ := h
      rw [h1, h2]
      clear h1 h2 r0 H0
      conv => whnf
      rw [hok.1.2]
      exact ⟨.im _, rfl⟩
end Go.Abs.Sig

/-! DVW -/
namespace Go.Abs.Sig
open Go.RowKit Go.Abs Go.ChangeShapes Go.WideShapes Go.ChangeAt
set_option linter.unusedSimpArgs false
set_option linter.unusedVariables false
set_option maxRecDepth 8000

theorem shv_str9 {n : Nat} {x : V} (h : ShV Go.Proofs.Tryd.prog (n + 1) 9 x) : ∃ l : List UInt8, x = .str l ∧ l.length ≤ maxStr := by
  have ha : aggT Go.Proofs.Tryd.prog 9 = false := by kernel_rfl
  unfold ShV at h
  rw [ha] at h
  obtain ⟨l, h1, hl⟩ := sh_str Go.Proofs.Tryd.underlying9 h
  rw [List.cons.injEq] at h1
  exact ⟨l, h1.1, le_maxStr hl⟩
theorem dialRises_walk (xs : List V) (h : ShAll Go.Proofs.Tryd.prog 8 (#[23, 9, 24] : Array TypeId).toList xs) : Call2 Go.Proofs.Tryd.prog GW 10 xs [] fun r H' => H' = [] ∧ r = .bool true := by
  obtain ⟨x1, r1, h1, ⟨x2, r2, h2, ⟨x3, r3, h3, rfl, rfl⟩, rfl⟩, rfl⟩ := h
  obtain ⟨a, b, c, rfl⟩ := shv_tune h1
  obtain ⟨us, rfl, hu⟩ := shv_str9 h2
  obtain ⟨l, rfl, hl⟩ := shv_mets h3
  exact dialRises_ct GW GW4 a b c us hu l (fun m hm => okMet_metOk (hl m hm)) []
end Go.Abs.Sig
