/- The walks of some functions: what they compute. -/
import Derived.Test.YtfmankbemjcfeaaDoorT2

/-! DV11 -/
namespace Go.Abs.Sig
open Go.RowKit Go.Abs
set_option linter.unusedSimpArgs false
set_option linter.unusedVariables false
set_option maxRecDepth 8000
attribute [local irreducible] StCall StYield WPc Weak IterOf Lp2

/-! ### the talk -/
def dFold : Hand → List Met → Hand × List Met × Bool
  | d, [] => (d, [], true)
  | d, m :: ms => if (dTake d m).2.2 ≠ 0 then (d, [], false) else ((dFold (dTake d m).1 ms).1, (dTake d m).2.1 ++ (dFold (dTake d m).1 ms).2.1, (dFold (dTake d m).1 ms).2.2)
def sFold : Hand → List Met → Hand × List Met × Bool
  | d, [] => (d, [], true)
  | d, m :: ms => if (sTake d m).2.2 ≠ 0 then (d, [], false) else ((sFold (sTake d m).1 ms).1, (sTake d m).2.1 ++ (sFold (sTake d m).1 ms).2.1, (sFold (sTake d m).1 ms).2.2)

theorem no_byte {l : List UInt8} {c : UInt8} (h : ¬ 0 ≤ ixB l c) (k : Nat) : l[k]? ≠ some c := by
  have := Lib.indexByte_ge l c
  have h1 : Lib.indexByte l c = -1 := by
    unfold ixB at h
    omega
  exact Lib.indexByte_none h1 k
theorem ixB_first {l : List UInt8} {c : UInt8} {n : Nat} (hn : l[n]? = some c) (h : ∀ k, k < n → l[k]? ≠ some c) : ixB l c = n := by
  have hge := Lib.indexByte_ge l c
  by_cases h0 : 0 ≤ ixB l c
  · obtain ⟨o, ho⟩ : ∃ o : Nat, ixB l c = o := ⟨(ixB l c).toNat, by omega⟩
    obtain ⟨h1, h2⟩ := Lib.indexByte_some (l := l) (c := c) (o := o) ho
    rw [ho]
    rcases Nat.lt_trichotomy o n with h3 | h3 | h3
    · exact absurd h1 (h o h3)
    · rw [h3]
    · exact absurd hn (h2 n h3)
  · exact absurd hn (no_byte h0 n)
theorem ixB_neg {l : List UInt8} {c : UInt8} (h : ∀ k : Nat, l[k]? ≠ some c) : ixB l c < 0 := by
  by_cases h0 : 0 ≤ ixB l c
  · obtain ⟨o, ho⟩ : ∃ o : Nat, ixB l c = o := ⟨(ixB l c).toNat, by omega⟩
    exact absurd (Lib.indexByte_some (l := l) (c := c) (o := o) ho).1 (h o)
  · omega
theorem pairs_of {us wd : List UInt8} (h : ¬ 0 ≤ ixB (us ++ wd) 0) : pairsF ([0] ++ us ++ [0] ++ wd) = (us, wd, true) := by
  have hu : ∀ k : Nat, us[k]? ≠ some 0 := fun k hk => by
    have hl : k < us.length := (List.getElem?_eq_some_iff.1 hk).1
    exact no_byte h k (by rw [List.getElem?_append_left hl]; exact hk)
  have hw : ∀ k : Nat, wd[k]? ≠ some 0 := fun k hk => by
    refine no_byte h (us.length + k) ?_
    rw [List.getElem?_append_right (by omega)]
    simpa using hk
  have hix : ixB (us ++ [0] ++ wd) 0 = us.length := by
    refine ixB_first ?_ fun k hk => ?_
    · rw [List.append_assoc, List.getElem?_append_right (Nat.le_refl _)]
      simp
    · rw [List.append_assoc, List.getElem?_append_left hk]
      exact hu k
  have hcut : cutB (us ++ [0] ++ wd) 0 = (us, wd, true) := by
    unfold cutB
    rw [hix, if_pos (by omega), Int.toNat_natCast]
    congr 1
    · simp
    · congr 1
      simp [List.drop_append]
  have hd : ([0] ++ us ++ [0] ++ wd).drop 1 = us ++ [0] ++ wd := by simp
  unfold pairsF
  rw [hd, hcut, if_pos ⟨by simp, rfl, ixB_neg hw⟩]

/-- What is agreed. -/
structure Talk where
  t : Int × Int × Int
  u : Int × Int × Int
  us : List UInt8
  wd : List UInt8
  ho : List UInt8
def Talk.a (x : Talk) : Int := lesserF x.u.1 x.t.1
def Talk.b (x : Talk) : Int := lesserF x.u.2.1 x.t.2.1
def Talk.c (x : Talk) : Int := if x.t.2.2 < x.u.2.2 then x.t.2.2 else x.u.2.2
structure TalkOk (x : Talk) : Prop where
  t : tR x.t.1 x.t.2.1 x.t.2.2 = true
  u : tR x.u.1 x.u.2.1 x.u.2.2 = true
  ho : x.ho.length ≤ 255
  nul : ¬ 0 ≤ ixB (x.us ++ x.wd) 0
  len : x.us.length + x.wd.length ≤ 1000
/-- The two, and what the server says, ahead of each round. -/
def tkS (x : Talk) : Nat → Hand
  | 0 => ⟨1, x.t.1, x.t.2.1, x.t.2.2, [], [], []⟩
  | 1 => ⟨2, x.t.1, x.t.2.1, x.t.2.2, x.us, x.wd, []⟩
  | _ => ⟨4, x.a, x.b, x.c, x.us, x.wd, x.ho⟩
def tkD (x : Talk) : Nat → Hand
  | 0 => ⟨1, x.u.1, x.u.2.1, x.u.2.2, x.us, x.wd, x.ho⟩
  | 1 => ⟨2, x.u.1, x.u.2.1, x.u.2.2, x.us, x.wd, x.ho⟩
  | 2 => ⟨3, x.a, x.b, x.c, x.us, x.wd, x.ho⟩
  | _ => ⟨4, x.a, x.b, x.c, x.us, x.wd, x.ho⟩
def tkM (x : Talk) : Nat → List Met
  | 0 => [startM]
  | 1 => [tuneM ⟨0, x.t.1, x.t.2.1, x.t.2.2, [], [], []⟩]
  | 2 => [openM]
  | _ => []
def tkB (x : Talk) : Nat → List Met
  | 0 => [dialM ⟨0, 0, 0, 0, x.us, x.wd, []⟩]
  | 1 => [(10, 31, [(u64 x.a, []), (u64 x.b, []), (u64 x.c, [])]), (10, 40, [(0, x.ho), (0, []), (0, [])])]
  | _ => []

theorem mright_of {m : Met} (h : allR [m] = true) : ¬ mright tbv m ≠ 0 := by
  unfold allR at h
  simpa using h
theorem dialM_right' (h : Hand) (hl : h.us.length + h.wd.length ≤ 1000) : allR [dialM h] = true ∧ ∀ m ∈ [dialM h], MetOk m := by
  unfold dialM
  have hx : ([0] ++ h.us ++ [0] ++ h.wd : List UInt8).length ≤ 1003 := by simp; omega
  generalize ([0] ++ h.us ++ [0] ++ h.wd : List UInt8) = x at hx
  have hw : wt 131072 (0, x) = 0 := by
    unfold wt
    rw [decide_eq_false (by simp only; omega)]
    rfl
  have e1 : isAt 10 11 = true := by kernel_rfl
  have e2 : (rowAt 10 11).2.2.1 = [84, 83, 76, 83] := by kernel_rfl
  have a1 : rl tbv 84 (0, [0, 0, 0, 0]) = 0 := by kernel_rfl
  have a2 : rl tbv 83 (0, PLAIN) = 0 := by kernel_rfl
  have a3 : rl tbv 76 (0, x) = 0 := hw
  have a4 : rl tbv 83 (0, [101, 110, 95, 85, 83]) = 0 := by kernel_rfl
  refine ⟨?_, ?_⟩
  · unfold allR
    have : mright tbv (10, 11, [(0, [0, 0, 0, 0]), (0, PLAIN), (0, x), (0, [101, 110, 95, 85, 83])]) = 0 := by
      rw [mright_zero]
      refine ⟨e1, by rw [e2]; rfl, ?_⟩
      show vright tbv (rowAt 10 11).2.2.1 _ = 0
      rw [e2]
      simp only [vright, a1, a2, a3, a4]
      simp
    simp [this]
  · intro m hm
    obtain rfl := List.mem_singleton.1 hm
    unfold MetOk Rng
    simp only [List.mem_cons, List.not_mem_nil, or_false]
    refine ⟨?_, ?_⟩
    · rintro v (rfl | rfl | rfl | rfl) <;> simp only <;> omega
    · rintro v (rfl | rfl | rfl | rfl)
      · decide
      · decide
      · simp only [maxStr]; omega
      · decide
theorem open40_right {ho : List UInt8} (h : ho.length ≤ 255) : mright tbv (10, 40, [(0, ho), (0, []), (0, [])]) = 0 := by
  have e1 : isAt 10 40 = true := by kernel_rfl
  have e2 : (rowAt 10 40).2.2.1 = [83, 83, 98] := by kernel_rfl
  have a1 : rl tbv 83 (0, ho) = 0 := by
    show wt 255 (0, ho) = 0
    unfold wt
    rw [decide_eq_false (by simp only; omega)]
    rfl
  have a2 : rl tbv 83 (0, []) = 0 := by kernel_rfl
  have a3 : rl tbv 98 (0, []) = 0 := by kernel_rfl
  rw [mright_zero]
  refine ⟨e1, by rw [e2]; rfl, ?_⟩
  show vright tbv (rowAt 10 40).2.2.1 _ = 0
  rw [e2]
  simp only [vright, a1, a2, a3]
  simp
theorem dFold_one {d k : Hand} {m : Met} {l : List Met} (h : dTake d m = (k, l, 0)) : dFold d [m] = (k, l, true) := by
  unfold dFold
  rw [h, if_neg (by simp)]
  unfold dFold
  simp
theorem sFold_cons {d k : Hand} {m : Met} {l : List Met} {ms : List Met} {x : Hand × List Met × Bool} (h : sTake d m = (k, l, 0)) (h2 : sFold k ms = x) : sFold d (m :: ms) = (x.1, l ++ x.2.1, x.2.2) := by
  rw [sFold, h, if_neg (by simp), h2]
theorem start_offers : offers (argOf startM 3).2 PLAIN = true := by kernel_rfl
theorem lesser_le {a b : Int} (h : 1 ≤ b) : lesserF a b ≤ b := by
  unfold lesserF
  rw [if_neg (by omega)]
  split <;> omega

theorem talk_a {x : Talk} (hx : TalkOk x) : (1 ≤ x.a ∧ x.a ≤ x.t.1) ∧ (4096 ≤ x.b ∧ x.b ≤ x.t.2.1) ∧ (0 ≤ x.c ∧ x.c ≤ x.t.2.2) ∧ x.a ≤ 65535 ∧ x.b ≤ 131072 ∧ x.c ≤ 65535 := by
  have ht := tR_iff.1 hx.t
  have hu := tR_iff.1 hx.u
  have h1 : 1 ≤ x.a ∧ x.a ≤ 65535 := lesser_in (a := x.u.1) (b := x.t.1) hu.1 (.inr ht.1.1)
  have h2 : 4096 ≤ x.b ∧ x.b ≤ 131072 := lesser_in (a := x.u.2.1) (b := x.t.2.1) hu.2.1 (.inr ht.2.1.1)
  have h3 : x.a ≤ x.t.1 := lesser_le ht.1.1
  have h4 : x.b ≤ x.t.2.1 := lesser_le (by omega)
  have h5 : 0 ≤ x.c ∧ x.c ≤ x.t.2.2 := by
    unfold Talk.c
    split <;> omega
  omega
theorem talk0 {x : Talk} (hx : TalkOk x) : dFold (tkD x 0) (tkM x 0) = (tkD x 1, tkB x 0, true) ∧ sFold (tkS x 0) (tkB x 0) = (tkS x 1, tkM x 1, true) := by
  refine ⟨dFold_one ?_, ?_⟩
  · rw [dTake_1 (mright_of start_right) rfl]
    unfold dStart
    rw [if_pos (by kernel_rfl), if_neg]
    · rfl
    · rintro (h | h | h)
      · exact h rfl
      · exact h rfl
      · rw [start_offers] at h; cases h
  · have h : sTake (tkS x 0) (dialM ⟨0, 0, 0, 0, x.us, x.wd, []⟩) = (tkS x 1, tkM x 1, 0) := by
      rw [sTake_1 (mright_of (dialM_right' _ hx.len).1) rfl]
      have ha1 : (argOf (dialM ⟨0, 0, 0, 0, x.us, x.wd, []⟩) 1).2 = PLAIN := rfl
      have ha2 : (argOf (dialM ⟨0, 0, 0, 0, x.us, x.wd, []⟩) 2).2 = [0] ++ x.us ++ [0] ++ x.wd := rfl
      have hc : isC (dialM ⟨0, 0, 0, 0, x.us, x.wd, []⟩) 11 = true := rfl
      unfold sStart
      rw [if_pos hc, ha1, ha2, pairs_of hx.nul, if_neg (fun h => h rfl), if_pos (show ((x.us, x.wd, true) : List UInt8 × List UInt8 × Bool).2.2 = true from rfl)]
      rfl
    rw [show tkB x 0 = [dialM ⟨0, 0, 0, 0, x.us, x.wd, []⟩] from rfl, sFold_cons h rfl]
    rfl
theorem talk1 {x : Talk} (hx : TalkOk x) : dFold (tkD x 1) (tkM x 1) = (tkD x 2, tkB x 1, true) ∧ sFold (tkS x 1) (tkB x 1) = (tkS x 2, tkM x 2, true) := by
  have ht := tR_iff.1 hx.t
  have hu := tR_iff.1 hx.u
  obtain ⟨ha, hb, hc, ha2, hb2, hc2⟩ := talk_a hx
  refine ⟨dFold_one ?_, ?_⟩
  · rw [dTake_2 (mright_of (tuneM_right (h := ⟨0, x.t.1, x.t.2.1, x.t.2.2, [], [], []⟩) hx.t).1) rfl]
    have a0 : i64 (argOf (tuneM ⟨0, x.t.1, x.t.2.1, x.t.2.2, [], [], []⟩) 0).1 = x.t.1 := by
      show i64 (u64 x.t.1) = x.t.1
      rw [u64_id' (by omega) (by omega)]; exact i64_id (by omega) (by omega)
    have a1 : i64 (argOf (tuneM ⟨0, x.t.1, x.t.2.1, x.t.2.2, [], [], []⟩) 1).1 = x.t.2.1 := by
      show i64 (u64 x.t.2.1) = x.t.2.1
      rw [u64_id' (by omega) (by omega)]; exact i64_id (by omega) (by omega)
    have a2 : i64 (argOf (tuneM ⟨0, x.t.1, x.t.2.1, x.t.2.2, [], [], []⟩) 2).1 = x.t.2.2 := by
      show i64 (u64 x.t.2.2) = x.t.2.2
      rw [u64_id' (by omega) (by omega)]; exact i64_id (by omega) (by omega)
    have hag : agreeF x.u.1 x.u.2.1 x.u.2.2 x.t.1 x.t.2.1 x.t.2.2 = ((x.a, x.b, x.c), 0) := by
      unfold agreeF
      rw [if_neg, if_neg]
      · rfl
      · omega
      · rintro (h | h | h | h)
        · rw [hx.u] at h; cases h
        · omega
        · omega
        · omega
    have hc : isC (tuneM ⟨0, x.t.1, x.t.2.1, x.t.2.2, [], [], []⟩) 30 = true := rfl
    unfold dTune
    rw [if_pos hc, a0, a1, a2]
    show dTuneR (tkD x 1) (agreeF x.u.1 x.u.2.1 x.u.2.2 x.t.1 x.t.2.1 x.t.2.2) = _
    rw [hag]
    rfl
  · have h1 : sTake (tkS x 1) (10, 31, [(u64 x.a, []), (u64 x.b, []), (u64 x.c, [])]) = (⟨3, x.a, x.b, x.c, x.us, x.wd, []⟩, [], 0) := by
      have hm : mright tbv (10, 31, [(u64 x.a, []), (u64 x.b, []), (u64 x.c, [])]) = 0 := by
        rw [u64_id' (n := x.a) (by omega) (by omega), u64_id' (n := x.b) (by omega) (by omega), u64_id' (n := x.c) (by omega) (by omega)]
        exact mright_sls (.inr rfl) (by omega) (by omega) (by omega)
      rw [sTake_2 (fun h => h hm) rfl]
      have a0 : i64 (argOf (10, 31, [(u64 x.a, []), (u64 x.b, []), (u64 x.c, [])]) 0).1 = x.a := by
        show i64 (u64 x.a) = x.a
        rw [u64_id' (by omega) (by omega)]; exact i64_id (by omega) (by omega)
      have a1 : i64 (argOf (10, 31, [(u64 x.a, []), (u64 x.b, []), (u64 x.c, [])]) 1).1 = x.b := by
        show i64 (u64 x.b) = x.b
        rw [u64_id' (by omega) (by omega)]; exact i64_id (by omega) (by omega)
      have a2 : i64 (argOf (10, 31, [(u64 x.a, []), (u64 x.b, []), (u64 x.c, [])]) 2).1 = x.c := by
        show i64 (u64 x.c) = x.c
        rw [u64_id' (by omega) (by omega)]; exact i64_id (by omega) (by omega)
      have hcc : isC (10, 31, [(u64 x.a, []), (u64 x.b, []), (u64 x.c, [])]) 31 = true := rfl
      unfold sTune
      rw [if_pos hcc, a0, a1, a2, if_neg, if_neg (by omega), if_neg (by omega), if_neg]
      · rfl
      · show ¬ x.t.2.2 < x.c
        omega
      · rintro (h | h | h)
        · have h : x.a > x.t.1 := h
          omega
        · have h : x.b > x.t.2.1 := h
          omega
        · omega
    have h2 : sTake ⟨3, x.a, x.b, x.c, x.us, x.wd, []⟩ (10, 40, [(0, x.ho), (0, []), (0, [])]) = (tkS x 2, [openM], 0) := by
      rw [sTake_3 (fun h => h (open40_right hx.ho)) rfl]
      have hcc : isC (10, 40, [(0, x.ho), (0, []), (0, [])]) 40 = true := rfl
      unfold sOpen
      rw [if_pos hcc]
      rfl
    rw [show tkB x 1 = [(10, 31, [(u64 x.a, []), (u64 x.b, []), (u64 x.c, [])]), (10, 40, [(0, x.ho), (0, []), (0, [])])] from rfl, sFold_cons h1 (sFold_cons h2 rfl)]
    rfl
theorem talk_step {x : Talk} (hx : TalkOk x) (r : Nat) : dFold (tkD x r) (tkM x r) = (tkD x (r + 1), tkB x r, true) ∧ sFold (tkS x r) (tkB x r) = (tkS x (r + 1), tkM x (r + 1), true) := by
  match r with
  | 0 => exact talk0 hx
  | 1 => exact talk1 hx
  | 2 =>
    refine ⟨dFold_one ?_, rfl⟩
    show dTake (tkD x 2) openM = _
    rw [dTake_3 (mright_of openM_right) rfl]
    unfold dOpen
    rw [if_pos (by kernel_rfl)]
    rfl
  | r + 3 => exact ⟨rfl, rfl⟩
theorem talk_len {x : Talk} (hx : TalkOk x) (r : Nat) : (tkM x r).length ≤ 1 ∧ (tkB x r).length ≤ 2 ∧ (∀ m ∈ tkM x r, ∀ v ∈ m.2.2, v.2.length ≤ maxStr) ∧ ∀ m ∈ tkB x r, ∀ v ∈ m.2.2, v.2.length ≤ maxStr := by
  have h1 : ∀ m ∈ tkB x 1, ∀ v ∈ m.2.2, v.2.length ≤ maxStr := by
    intro m hm v hv
    have := hx.ho
    simp only [tkB, List.mem_cons, List.not_mem_nil, or_false] at hm
    rcases hm with rfl | rfl
    · simp only [List.mem_cons, List.not_mem_nil, or_false] at hv
      rcases hv with rfl | rfl | rfl <;> exact Nat.zero_le _
    · simp only [List.mem_cons, List.not_mem_nil, or_false] at hv
      rcases hv with rfl | rfl | rfl
      · simp only [maxStr]; omega
      · exact Nat.zero_le _
      · exact Nat.zero_le _
  match r with
  | 0 => exact ⟨Nat.le_refl _, Nat.le_succ 1, fun m hm => (start_ok m hm).2, fun m hm => ((dialM_right' _ hx.len).2 m hm).2⟩
  | 1 => exact ⟨Nat.le_refl _, Nat.le_refl _, fun m hm => ((tuneM_right (h := ⟨0, x.t.1, x.t.2.1, x.t.2.2, [], [], []⟩) hx.t).2 m hm).2, h1⟩
  | 2 => exact ⟨Nat.le_refl _, Nat.zero_le _, fun m hm => (openM_ok m hm).2, fun m hm => by cases hm⟩
  | r + 3 => exact ⟨Nat.zero_le _, Nat.zero_le _, fun m (hm : m ∈ []) => (by cases hm), fun m (hm : m ∈ []) => (by cases hm)⟩
end Go.Abs.Sig

/-! DV12 -/
namespace Go.Abs.Sig
open Go.RowKit Go.Abs
set_option linter.unusedSimpArgs false
set_option linter.unusedVariables false
set_option maxRecDepth 8000
attribute [local irreducible] StCall StYield WPc Weak IterOf Lp2

/-- Ahead of a round. -/
def toS (us wd ho : List UInt8) (s d : Hand) (says : List Met) (r : Nat) : S2 :=
  headS 156 ([.bad, .bad, .bad, .bad, .bad, .str us, .str wd, .str ho, .im (.bool true), .ptr 3 0, .bad, .ptr 4 0, .bad, .dat 3 (mrows says) .no, .bad, .int .i64 (r : Int)] ++ List.replicate 140 .bad) [none, none, none, some (.cells 27 (hcells s)), some (.cells 27 (hcells d))] [] none
/-- In the dialler's loop. -/
def tiS (us wd ho : List UInt8) (s d : Hand) (says back : List Met) (r j : Nat) : S2 :=
  headS 156 ([.bad, .bad, .bad, .bad, .bad, .str us, .str wd, .str ho, .im (.bool true), .ptr 3 0, .bad, .ptr 4 0, .bad, .dat 3 (mrows says) .no, .bad, .int .i64 (r : Int), .dat 3 (mrows back) (.cls 97), .int .i64 (j : Int)] ++ List.replicate 138 .bad) [none, none, none, some (.cells 27 (hcells s)), some (.cells 27 (hcells d))] [] none
/-- In the server's loop. -/
def tjS (us wd ho : List UInt8) (s d : Hand) (says back : List Met) (r j : Nat) : S2 :=
  headS 156 ([.bad, .bad, .bad, .bad, .bad, .str us, .str wd, .str ho, .im (.bool true), .ptr 3 0, .bad, .ptr 4 0, .bad, .dat 3 (mrows says) (.cls 119), .bad, .int .i64 (r : Int), .dat 3 (mrows back) .no, .bad, .bad, .bad, .bad, .int .i64 (j : Int)] ++ List.replicate 134 .bad) [none, none, none, some (.cells 27 (hcells s)), some (.cells 27 (hcells d))] [] none

theorem mrows_app (a b : List Met) : mrows (a ++ b) = mrows a ++ mrows b := List.map_append
theorem mrows_len (a : List Met) : (mrows a).length = a.length := by simp [mrows]
theorem mrows_solid (l : List Met) : ∀ r ∈ mrows l, r.all V.solid = true := by
  intro r hr
  obtain ⟨m, _, rfl⟩ := List.mem_map.1 hr
  rfl
theorem dFold_step {d k d' : Hand} {m : Met} {l rest : List Met} {e : Int} {ms : List Met} (ht : dTake d m = (k, l, e)) (h : dFold d (m :: ms) = (d', rest, true)) : e = 0 ∧ ∃ rest', dFold k ms = (d', rest', true) ∧ rest = l ++ rest' := by
  rw [dFold, ht] at h
  by_cases he : e ≠ 0
  · rw [if_pos he] at h; cases h
  · rw [if_neg he] at h
    refine ⟨by simpa using he, (dFold k ms).2.1, ?_, ?_⟩
    · have h1 := congrArg (fun x => x.1) h
      have h2 := congrArg (fun x => x.2.2) h
      simp only at h1 h2
      rw [← h1]
      show _ = ((dFold k ms).1, (dFold k ms).2.1, true)
      rw [← h2]
    · exact (congrArg (fun x => x.2.1) h).symm
theorem sFold_step {d k d' : Hand} {m : Met} {l rest : List Met} {e : Int} {ms : List Met} (ht : sTake d m = (k, l, e)) (h : sFold d (m :: ms) = (d', rest, true)) : e = 0 ∧ ∃ rest', sFold k ms = (d', rest', true) ∧ rest = l ++ rest' := by
  rw [sFold, ht] at h
  by_cases he : e ≠ 0
  · rw [if_pos he] at h; cases h
  · rw [if_neg he] at h
    refine ⟨by simpa using he, (sFold k ms).2.1, ?_, ?_⟩
    · have h1 := congrArg (fun x => x.1) h
      have h2 := congrArg (fun x => x.2.2) h
      simp only at h1 h2
      rw [← h1]
      show _ = ((sFold k ms).1, (sFold k ms).2.1, true)
      rw [← h2]
    · exact (congrArg (fun x => x.2.1) h).symm
theorem dTake_keep (h : Hand) (m : Met) : (dTake h m).1.us = h.us ∧ (dTake h m).1.wd = h.wd := by
  have ends : (dEnds h m).1.us = h.us ∧ (dEnds h m).1.wd = h.wd := by
    unfold dEnds
    split <;> exact ⟨rfl, rfl⟩
  by_cases hr : mright tbv m ≠ 0
  · rw [dTake_bad hr]; exact ⟨rfl, rfl⟩
  by_cases h56 : h.st = 5 ∨ h.st = 6
  · rw [dTake_56 hr h56]
    rcases closing_law (m := m) h56 with h1 | ⟨_, ⟨_, h5, h1⟩ | ⟨_, h5, h1⟩ | h1⟩ <;> (rw [h1]; exact ⟨rfl, rfl⟩)
  by_cases hin : 1 ≤ h.st ∧ h.st ≤ 6
  · have hst : h.st = 1 ∨ h.st = 2 ∨ h.st = 3 ∨ h.st = 4 := by omega
    rcases hst with h1 | h1 | h1 | h1
    · rw [dTake_1 hr h1]
      unfold dStart
      split
      · split <;> exact ⟨rfl, rfl⟩
      · exact ends
    · rw [dTake_2 hr h1]
      unfold dTune
      split
      · unfold dTuneR
        split <;> exact ⟨rfl, rfl⟩
      · exact ends
    · rw [dTake_3 hr h1]
      unfold dOpen
      split
      · exact ⟨rfl, rfl⟩
      · exact ends
    · rw [dTake_4 hr h1]
      unfold dRun
      split
      · exact ⟨rfl, rfl⟩
      · split
        · exact ⟨rfl, rfl⟩
        · exact ends
  · rw [dTake_out hr hin]; exact ⟨rfl, rfl⟩

def tkCells (x : Talk) : List V := tcells x.t.1 x.t.2.1 x.t.2.2 ++ tcells x.u.1 x.u.2.1 x.u.2.2 ++ [.str x.us, .str x.wd, .str x.ho]
set_option maxHeartbeats 8000000 in
theorem dialTalks_ct (G : Nat → Option (List V)) (hG : G 4 = some wV) (x : Talk) (hus : x.us.length ≤ maxStr) (hwd : x.wd.length ≤ maxStr) (H : Heap) : Call2 Go.Proofs.Tryd.prog G 11 [.agg (tkCells x)] H fun r H' => H' = H ∧ r = .bool true := by
  refine Call2.free (fun y hy => by
    simp only [List.mem_cons, List.not_mem_nil, or_false] at hy
    subst hy
    refine .agg _ fun v hv => ?_
    simp only [tkCells, tcells, List.cons_append, List.nil_append, List.mem_cons, List.not_mem_nil, or_false] at hv
    rcases hv with rfl | rfl | rfl | rfl | rfl | rfl | rfl | rfl | rfl
    · exact .im _
    · exact .im _
    · exact .im _
    · exact .im _
    · exact .im _
    · exact .im _
    · exact .str _
    · exact .str _
    · exact .str _) ?_ H
  have hb := sbegin_ct G x.t.1 x.t.2.1 x.t.2.2
  have hd := dbegin_ct G x.u.1 x.u.2.1 x.u.2.2 x.us x.wd x.ho hus hwd
  unfold sBegin at hb
  unfold dBegin at hd
  refine stCall2 Go.Proofs.Tryd.func11 rfl (by decide) ?_
  conv => whnf
  refine Call2.mono (shown11_ct G _) fun r0 H0 h => ?_
  obtain ⟨h1, h2⟩ := h
  rw [h1, h2]
  clear h1 h2 r0 H0
  conv => whnf
  cases hT : tR x.t.1 x.t.2.1 x.t.2.2
  · rw [hT, if_neg (by simp)] at hb
    generalize (if tR x.u.1 x.u.2.1 x.u.2.2 = false ∨ x.ho.length > 255 ∨ 0 ≤ ixB (x.us ++ x.wd) 0 then (zHand, (1 : Int)) else (⟨1, x.u.1, x.u.2.1, x.u.2.2, x.us, x.wd, x.ho⟩, 0)) = y at hd
    obtain ⟨⟨a1, a2, a3, a4, a5, a6, a7⟩, e2⟩ := y
    refine Call2.mono (hb _) fun r0 H0 h => ?_
    obtain ⟨h1, h2⟩ := h
    rw [h1, h2]
    clear h1 h2 r0 H0
    conv => whnf
    refine Call2.mono (hd _) fun r0 H0 h => ?_
    obtain ⟨h1, h2⟩ := h
    rw [h1, h2]
    clear h1 h2 r0 H0
    conv => whnf
    exact ⟨.im _, rfl⟩
  rw [hT, if_pos rfl] at hb
  by_cases hbad : tR x.u.1 x.u.2.1 x.u.2.2 = false ∨ x.ho.length > 255 ∨ 0 ≤ ixB (x.us ++ x.wd) 0
  · rw [if_pos hbad] at hd
    refine Call2.mono (hb _) fun r0 H0 h => ?_
    obtain ⟨h1, h2⟩ := h
    rw [h1, h2]
    clear h1 h2 r0 H0
    conv => whnf
    refine Call2.mono (hd _) fun r0 H0 h => ?_
    obtain ⟨h1, h2⟩ := h
    rw [h1, h2]
    clear h1 h2 r0 H0
    conv => whnf
    exact ⟨.im _, rfl⟩
  rw [if_neg hbad] at hd
  simp only [maxStr] at hus hwd
  have hw0 : IntKind.i64.wrap ((x.us.length : Int) + (x.wd.length : Int)) = (x.us.length : Int) + (x.wd.length : Int) := wrap_i64 (by omega) (by omega)
  refine Call2.mono (hb _) fun r0 H0 h => ?_
  obtain ⟨h1, h2⟩ := h
  rw [h1, h2]
  clear h1 h2 r0 H0
  conv => whnf
  refine Call2.mono (hd _) fun r0 H0 h => ?_
  obtain ⟨h1, h2⟩ := h
  rw [h1, h2]
  clear h1 h2 r0 H0
  conv => whnf
  rw [hw0]
  by_cases hl : (x.us.length : Int) + (x.wd.length : Int) > 1000
  · refine br_t (decide_eq_true hl) ?_
    conv => whnf
    exact ⟨.im _, rfl⟩
  refine br_f (decide_eq_false hl) ?_
  have hx : TalkOk x := ⟨hT, by cases h : tR x.u.1 x.u.2.1 x.u.2.2 <;> simp_all, by omega, fun h => hbad (.inr (.inr h)), by omega⟩
  clear hbad hb hd hT hw0
  conv => whnf
  refine Call2.mono (sgreet_ct G ⟨0, x.t.1, x.t.2.1, x.t.2.2, [], [], []⟩ _) fun r0 H0 h => ?_
  obtain ⟨h1, h2⟩ := h
  rw [h1, h2]
  clear h1 h2 r0 H0
  conv => whnf
  intro hw
  refine wpc_loop2 (fun n1 s1 => ∃ r : Nat, r ≤ 6 ∧ n1 = 6 - r ∧ s1 = toS x.us x.wd x.ho (tkS x r) (tkD x r) (tkM x r) r) 6 (toS x.us x.wd x.ho (tkS x 0) (tkD x 0) (tkM x 0) 0) ?_ ⟨0, by omega, rfl, rfl⟩ ?_ ?_
  · exact weak2 hw rfl ⟨.str _, .str _, .str _, .im _, .ptr 3 0 (show 3 < 5 by decide), .ptr 4 0 (show 4 < 5 by decide), .dat _ _ _, .im _, trivial⟩ (.cons (.drop _) (.cons (.drop _) (.cons (.drop _) (.cons (.free (hcells_free' (tkS x 0))) (.cons (.free (hcells_free' (tkD x 0))) (.nil _)))))) (fun id hid => by cases hid) rfl (fun id hid => by cases hid)
  · rintro n1 s1 ⟨r, _, rfl, rfl⟩
    exact ⟨⟨Nat.le_refl 156, fun x hx => by cases hx⟩, rfl, Nat.le_refl _, rfl⟩
  · rintro n1 s1 ⟨r, hr, rfl, rfl⟩
    by_cases hr6 : r < 6
    · obtain ⟨hs1, hs2⟩ := talk_step hx r
      obtain ⟨hn1, hn2, hn3, hn4⟩ := talk_len hx r
      have hdu : (tkD x r).us.length ≤ maxStr ∧ (tkD x r).wd.length ≤ maxStr := by
        match r with
        | 0 => exact ⟨hus, hwd⟩
        | 1 => exact ⟨hus, hwd⟩
        | 2 => exact ⟨hus, hwd⟩
        | r + 3 => exact ⟨hus, hwd⟩
      generalize hM : tkM x r = says at *
      generalize hB : tkB x r = bk at *
      generalize hS : tkS x r = s at *
      generalize hD : tkD x r = d at *
      generalize hM' : tkM x (r + 1) = says' at *
      generalize hS' : tkS x (r + 1) = s' at *
      generalize hD' : tkD x (r + 1) = d' at *
      have hrw : IntKind.i64.wrap ((r : Int) + 1) = ((r + 1 : Nat) : Int) := by rw [wrap_i64 (by omega) (by omega)]; rfl
      conv => whnf
      refine br_t (decide_eq_true (by omega)) ?_
      conv => whnf
      intro hw1
      refine wpc_loop2 (fun n2 s2 => ∃ (j : Nat) (dd : Hand) (back rest : List Met), j ≤ says.length ∧ n2 = says.length - j ∧ s2 = tiS x.us x.wd x.ho s dd says back r j ∧ dFold dd (says.drop j) = (d', rest, true) ∧ back ++ rest = bk ∧ dd.us.length ≤ maxStr ∧ dd.wd.length ≤ maxStr) says.length (tiS x.us x.wd x.ho s d says [] r 0) ?_ ⟨0, d, [], bk, Nat.zero_le _, rfl, rfl, hs1, rfl, hdu.1, hdu.2⟩ ?_ ?_
      · exact weak2 hw1 rfl ⟨.str _, .str _, .str _, .im _, .ptr 3 0 (show 3 < 5 by decide), .ptr 4 0 (show 4 < 5 by decide), .dat _ _ _, .im _, .nil _ _ _ _ (.inl rfl), .im _, trivial⟩ (.cons (.drop _) (.cons (.drop _) (.cons (.drop _) (.cons (.free (hcells_free' s)) (.cons (.free (hcells_free' d)) (.nil _)))))) (fun id hid => by cases hid) rfl (fun id hid => by cases hid)
      · rintro n1 s1 ⟨j, dd, back, rest, _, rfl, rfl, _⟩
        exact ⟨⟨Nat.le_refl 156, fun x hx => by cases hx⟩, rfl, Nat.le_refl _, rfl⟩
      · rintro n2 s2 ⟨j, dd, back, rest, hj, rfl, rfl, hf, hbk, hu1, hu2⟩
        by_cases hjl : j < says.length
        · obtain ⟨m, hmj⟩ : ∃ m, says[j]? = some m := ⟨_, List.getElem?_eq_getElem hjl⟩
          have hgj := mrows_get hmj
          have hgd : (true && true && decide ((0 : Int) ≤ (j : Int))) = true := by simp
          have hwj : IntKind.i64.wrap ((j : Int) + 1) = ((j + 1 : Nat) : Int) := by rw [wrap_i64 (by omega) (by omega)]; rfl
          have hdrop : says.drop j = m :: says.drop (j + 1) := by
            rw [List.drop_eq_getElem_cons hjl]
            congr 1
            exact Option.some.inj ((List.getElem?_eq_getElem hjl).symm.trans hmj)
          rw [hdrop] at hf
          have ht := dtake_ct G hG dd m (hn3 m (List.mem_of_getElem? hmj)) hu1 hu2
          have hkeep := dTake_keep dd m
          have hstep := fun k l e h => dFold_step (d := dd) (k := k) (l := l) (e := e) h hf
          generalize dTake dd m = y at ht hkeep hstep
          obtain ⟨k, l, e⟩ := y
          obtain ⟨rfl, rest', hf', rfl⟩ := hstep k l e rfl
          have hk1 : k.us.length ≤ maxStr := by rw [show k.us = dd.us from hkeep.1]; exact hu1
          have hk2 : k.wd.length ≤ maxStr := by rw [show k.wd = dd.wd from hkeep.2]; exact hu2
          have hlen : back.length + l.length ≤ 2 := by
            have := congrArg List.length hbk
            simp only [List.length_append] at this
            omega
          have hml := mrows_len says
          have hm1 := mrows_len back
          have hm2 := mrows_len l
          have happ := (mrows_app back l).symm
          conv => whnf
          rw [hml]
          refine br_t (decide_eq_true (by omega)) ?_
          conv => whnf
          intro hwD
          refine wpc_drawG2 [10, 11] [] [] (by rfl) (by kernel_rfl) (by kernel_rfl) hwD ?_
          conv => whnf
          refine grd_intro hgd (optK_intro hgj ?_)
          conv => whnf
          refine ⟨_, fun X _ => ht _, ?_⟩
          conv => whnf
          refine ⟨.inr rfl, .inr rfl, mrows_solid l, ?_, ?_, ?_⟩
          · show ((mrows back).length + (mrows l).length) * 40 ≤ maxBytes
            rw [hm1, hm2]
            unfold maxBytes
            omega
          · show (mrows back).length + (mrows l).length ≤ maxBytes
            rw [hm1, hm2]
            unfold maxBytes
            omega
          conv => whnf
          rw [happ]
          intro hw2
          refine ⟨says.length - (j + 1), tiS x.us x.wd x.ho s k says (back ++ l) r (j + 1), by omega, ?_, j + 1, k, back ++ l, rest', by omega, rfl, rfl, hf', by rw [List.append_assoc]; exact hbk, hk1, hk2⟩
          exact weak2 hw2 rfl ⟨.str _, .str _, .str _, .im _, .ptr 3 0 (show 3 < 5 by decide), .ptr 4 0 (show 4 < 5 by decide), .dat _ _ _, .im _, .dat _ _ _, .int hwj, trivial⟩ (.cons (.drop _) (.cons (.drop _) (.cons (.drop _) (.cons (.free (hcells_free' s)) (.cons (.free (hcells_free' k)) (.nil _)))))) (fun id hid => by cases hid) rfl (fun id hid => by cases hid)
        · have hje : j = says.length := by omega
          have hdrop : says.drop j = [] := List.drop_eq_nil_of_le (by omega)
          rw [hdrop] at hf
          have e1 : dd = d' := congrArg (fun x => x.1) hf
          have e2 : rest = [] := (congrArg (fun x => x.2.1) hf).symm
          rw [e2, List.append_nil] at hbk
          subst e1
          subst hbk
          have hml := mrows_len says
          conv => whnf
          rw [hml]
          refine br_f (decide_eq_false (by omega)) ?_
          conv => whnf
          intro hw3
          refine wpc_loop2 (fun n2 s2 => ∃ (j : Nat) (ss : Hand) (say rest : List Met), j ≤ back.length ∧ n2 = back.length - j ∧ s2 = tjS x.us x.wd x.ho ss dd say back r j ∧ sFold ss (back.drop j) = (s', rest, true) ∧ say ++ rest = says') back.length (tjS x.us x.wd x.ho s dd [] back r 0) ?_ ⟨0, s, [], says', Nat.zero_le _, rfl, rfl, hs2, rfl⟩ ?_ ?_
          · exact weak2 hw3 rfl ⟨.str _, .str _, .str _, .im _, .ptr 3 0 (show 3 < 5 by decide), .ptr 4 0 (show 4 < 5 by decide), .nil _ _ _ _ (.inl rfl), .im _, .no _ _ _, .im _, trivial⟩ (.cons (.drop _) (.cons (.drop _) (.cons (.drop _) (.cons (.free (hcells_free' s)) (.cons (.free (hcells_free' dd)) (.nil _)))))) (fun id hid => by cases hid) rfl (fun id hid => by cases hid)
          · rintro n1 s1 ⟨j, ss, say, rest, _, rfl, rfl, _⟩
            exact ⟨⟨Nat.le_refl 156, fun x hx => by cases hx⟩, rfl, Nat.le_refl _, rfl⟩
          clear hf hj hjl hje hdrop hml
          rintro n2 s2 ⟨j, ss, say, rest, hj, rfl, rfl, hf, hsy⟩
          by_cases hjl : j < back.length
          · obtain ⟨m, hmj⟩ : ∃ m, back[j]? = some m := ⟨_, List.getElem?_eq_getElem hjl⟩
            have hgj := mrows_get hmj
            have hgd : (true && true && decide ((0 : Int) ≤ (j : Int))) = true := by simp
            have hwj : IntKind.i64.wrap ((j : Int) + 1) = ((j + 1 : Nat) : Int) := by rw [wrap_i64 (by omega) (by omega)]; rfl
            have hdrop : back.drop j = m :: back.drop (j + 1) := by
              rw [List.drop_eq_getElem_cons hjl]
              congr 1
              exact Option.some.inj ((List.getElem?_eq_getElem hjl).symm.trans hmj)
            rw [hdrop] at hf
            have ht := stake_ct G hG ss m (hn4 m (List.mem_of_getElem? hmj))
            have hstep := fun k l e h => sFold_step (d := ss) (k := k) (l := l) (e := e) h hf
            generalize sTake ss m = y at ht hstep
            obtain ⟨k, l, e⟩ := y
            obtain ⟨rfl, rest', hf', rfl⟩ := hstep k l e rfl
            have hn5 : says'.length ≤ 1 := by rw [← hM']; exact (talk_len hx (r + 1)).1
            have hlen : say.length + l.length ≤ 2 := by
              have := congrArg List.length hsy
              simp only [List.length_append] at this
              omega
            have hml := mrows_len back
            have hm1 := mrows_len say
            have hm2 := mrows_len l
            have happ := (mrows_app say l).symm
            conv => whnf
            rw [hml]
            refine br_t (decide_eq_true (by omega)) ?_
            conv => whnf
            intro hwD
            refine wpc_drawG2 [10, 11] [] [] (by rfl) (by kernel_rfl) (by kernel_rfl) hwD ?_
            conv => whnf
            refine grd_intro hgd (optK_intro hgj ?_)
            conv => whnf
            refine ⟨_, fun X _ => ht _, ?_⟩
            conv => whnf
            refine ⟨.inr rfl, .inr rfl, mrows_solid l, ?_, ?_, ?_⟩
            · show ((mrows say).length + (mrows l).length) * 40 ≤ maxBytes
              rw [hm1, hm2]
              unfold maxBytes
              omega
            · show (mrows say).length + (mrows l).length ≤ maxBytes
              rw [hm1, hm2]
              unfold maxBytes
              omega
            conv => whnf
            rw [happ]
            intro hw2
            refine ⟨back.length - (j + 1), tjS x.us x.wd x.ho k dd (say ++ l) back r (j + 1), by omega, ?_, j + 1, k, say ++ l, rest', by omega, rfl, rfl, hf', by rw [List.append_assoc]; exact hsy⟩
            exact weak2 hw2 rfl ⟨.str _, .str _, .str _, .im _, .ptr 3 0 (show 3 < 5 by decide), .ptr 4 0 (show 4 < 5 by decide), .dat _ _ _, .im _, .dat _ _ _, .int hwj, trivial⟩ (.cons (.drop _) (.cons (.drop _) (.cons (.drop _) (.cons (.free (hcells_free' k)) (.cons (.free (hcells_free' dd)) (.nil _)))))) (fun id hid => by cases hid) rfl (fun id hid => by cases hid)
          · have hje : j = back.length := by omega
            have hdrop : back.drop j = [] := List.drop_eq_nil_of_le (by omega)
            rw [hdrop] at hf
            have e1 : ss = s' := congrArg (fun x => x.1) hf
            have e2 : rest = [] := (congrArg (fun x => x.2.1) hf).symm
            rw [e2, List.append_nil] at hsy
            subst e1
            subst hsy
            have hml := mrows_len back
            conv => whnf
            rw [hml]
            refine br_f (decide_eq_false (by omega)) ?_
            conv => whnf
            intro hw4
            refine ⟨6 - (r + 1), toS x.us x.wd x.ho ss dd say (r + 1), by omega, ?_, r + 1, by omega, rfl, by rw [hS', hD', hM']⟩
            exact weak2 hw4 rfl ⟨.str _, .str _, .str _, .im _, .ptr 3 0 (show 3 < 5 by decide), .ptr 4 0 (show 4 < 5 by decide), .no _ _ _, .int hrw, trivial⟩ (.cons (.drop _) (.cons (.drop _) (.cons (.drop _) (.cons (.free (hcells_free' ss)) (.cons (.free (hcells_free' dd)) (.nil _)))))) (fun id hid => by cases hid) rfl (fun id hid => by cases hid)
    · have hr6 : r = 6 := by omega
      subst hr6
      conv => whnf
      refine EqT.eql eqT23 flat23 (eq23 x.a x.b x.c x.a x.b x.c) ?_
      rw [decide_eq_true ⟨rfl, rfl, rfl⟩]
      conv => whnf
      rw [show decide ((tkS x 6).us = x.us) = true from decide_eq_true rfl]
      conv => whnf
      rw [show decide ((tkS x 6).wd = x.wd) = true from decide_eq_true rfl]
      conv => whnf
      rw [show decide ((tkS x 6).ho = x.ho) = true from decide_eq_true rfl]
      conv => whnf
      exact ⟨.im _, rfl⟩
end Go.Abs.Sig

/-! DVW2 -/
namespace Go.Abs.Sig
open Go.RowKit Go.Abs Go.ChangeShapes Go.WideShapes Go.ChangeAt
set_option linter.unusedSimpArgs false
set_option linter.unusedVariables false
set_option maxRecDepth 8000

theorem dialTalks_walk (xs : List V) (h : ShAll Go.Proofs.Tryd.prog 8 (#[56] : Array TypeId).toList xs) : Call2 Go.Proofs.Tryd.prog GW 11 xs [] fun r H' => H' = [] ∧ r = .bool true := by
  obtain ⟨x1, r1, h1, rfl, rfl⟩ := h
  have ha : aggT Go.Proofs.Tryd.prog 56 = true := by kernel_rfl
  unfold ShV at h1
  rw [ha] at h1
  obtain ⟨vs, rfl, h⟩ := h1
  obtain ⟨p, q, h1, ⟨p', q', h2, ⟨p'', q'', h3, ⟨p3, q3, h4, ⟨p4, q4, h5, rfl, rfl⟩, rfl⟩, rfl⟩, rfl⟩, rfl⟩ := sh_struct Go.Proofs.Tryd.underlying56 h
  obtain ⟨a, b, c, rfl⟩ := sh_tune h1
  obtain ⟨a', b', c', rfl⟩ := sh_tune h2
  obtain ⟨u, rfl, hu⟩ := sh_str Go.Proofs.Tryd.underlying9 h3
  obtain ⟨w, rfl, hw⟩ := sh_str Go.Proofs.Tryd.underlying9 h4
  obtain ⟨o, rfl, ho⟩ := sh_str Go.Proofs.Tryd.underlying9 h5
  exact dialTalks_ct GW GW4 ⟨(a, b, c), (a', b', c'), u, w, o⟩ (le_maxStr hu) (le_maxStr hw) []
end Go.Abs.Sig
