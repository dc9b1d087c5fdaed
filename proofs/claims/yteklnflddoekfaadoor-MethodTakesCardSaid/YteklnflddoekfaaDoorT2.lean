/- The walks of some functions: what they compute. -/
import Derived.Test.YteklnflddoekfaaDoorT1
import Derived.Test.YteklnflddoekfaaDoorRows
import Derived.LaidMore
import Derived.Stop.Joined

/-! P2 -/
namespace Go.Abs.Sig
open Go.RowKit Go.Abs
set_option linter.unusedSimpArgs false
set_option linter.unusedVariables false
set_option maxRecDepth 8000
attribute [local irreducible] StCall StYield WPc Weak IterOf Lp2

/-- Two texts and an error. -/
def ssV (x : List UInt8 × List UInt8 × Int) : V := .tup [.str x.1, .str x.2.1, .int .i64 x.2.2]
theorem ssV_free (x : List UInt8 × List UInt8 × Int) : (ssV x).Free := .tup _ fun v hv => by
  simp only [List.mem_cons, List.not_mem_nil, or_false] at hv
  rcases hv with rfl | rfl | rfl
  · exact .str _
  · exact .str _
  · exact .im _
def skipF (s : List UInt8) (n : Nat) : List UInt8 × List UInt8 × Int := if s.length < n then ([], [], 2) else (s.take n, s.drop n, 0)

theorem u64_len {n : Nat} (h : n ≤ 1152921504606846976) : IntKind.u64.wrap (n : Int) = (n : Int) := by
  simp [IntKind.wrap, IntKind.bits, IntKind.signed]
  omega

theorem skip_ct (G : Nat → Option (List V)) (s : List UInt8) (hs : s.length ≤ maxStr) (n : Nat) (H : Heap) : Call2 Go.Proofs.Tryd.prog G 97 [.str s, .int .u64 (n : Int)] H fun r H' => H' = H ∧ r = ssV (skipF s n) := by
  refine Call2.free (fun x hx => by
    simp only [List.mem_cons, List.not_mem_nil, or_false] at hx
    rcases hx with rfl | rfl
    · exact .str _
    · exact .im _) ?_ H
  refine stCall2 Go.Proofs.Tryd.func97 rfl (by decide) ?_
  have hs' : s.length ≤ 1152921504606846976 := hs
  have hu := u64_len hs'
  unfold skipF
  conv => whnf
  rw [hu]
  by_cases hlt : s.length < n
  · have hlt' : decide ((s.length : Int) < (n : Int)) = true := decide_eq_true (by omega)
    refine br_t hlt' ?_
    conv => whnf
    rw [if_pos hlt]
    exact ⟨ssV_free ([], [], 2), rfl⟩
  · have hlt' : decide ((s.length : Int) < (n : Int)) = false := decide_eq_false (by omega)
    refine br_f hlt' ?_
    conv => whnf
    intro hw3
    refine wpc_draw2 9 (by rfl) (by decide) (by decide) hw3 ?_
    conv => whnf
    refine ⟨⟨by omega, by omega, by omega⟩, ?_⟩
    conv => whnf
    refine ⟨⟨by omega, by omega, by omega⟩, ?_⟩
    conv => whnf
    rw [if_neg hlt]
    have hsl : (List.take ((s.length : Nat) : Int).toNat s) = s := List.take_length
    rw [hsl]
    exact ⟨ssV_free (s.take n, s.drop n, 0), rfl⟩

/-- A text behind its length. -/
def ttake (n : Nat) (s : List UInt8) : List UInt8 × List UInt8 × Int := if (ntake s n).2.2 ≠ 0 then ([], [], (ntake s n).2.2) else skipF (ntake s n).2.1 (ntake s n).1

theorem ktake_ct (G : Nat → Option (List V)) (hG : G 1 = some wV) (n : Nat) (hn : n = 1 ∨ n = 2 ∨ n = 4 ∨ n = 8) (s : List UInt8) (hs : s.length ≤ maxStr) (H : Heap) : Call2 Go.Proofs.Tryd.prog G 93 [.int .i64 (n : Int), .str s] H fun r H' => H' = H ∧ r = ssV (ttake n s) := by
  refine Call2.free (fun x hx => by
    simp only [List.mem_cons, List.not_mem_nil, or_false] at hx
    rcases hx with rfl | rfl
    · exact .im _
    · exact .str _) ?_ H
  refine stCall2 Go.Proofs.Tryd.func93 rfl (by decide) ?_
  have hl : (ntake s n).2.1.length ≤ maxStr := by
    unfold ntake
    split
    · exact Nat.zero_le _
    · simp only [List.length_drop]; omega
  have h1 := ntake_ct G hG n hn s
  unfold ttake
  generalize ntake s n = x at h1 hl
  obtain ⟨v, rest, e⟩ := x
  unfold ntV at h1
  have h2 := skip_ct G rest hl v
  conv => whnf
  refine Call2.mono (h1 _) fun r0 H0 h => ?_
  obtain ⟨h1, h2⟩ := h
  rw [h1, h2]
  clear h1 h2 r0 H0
  conv => whnf
  by_cases he : e ≠ 0
  · refine br_t (decide_eq_true he) ?_
    conv => whnf
    rw [if_pos he]
    exact ⟨ssV_free ([], [], e), rfl⟩
  · refine br_f (decide_eq_false he) ?_
    rw [if_neg he]
    unfold ssV at h2
    conv => whnf
    refine Call2.mono (h2 _) fun r0 H0 h => ?_
    obtain ⟨h1, h2⟩ := h
    rw [h1, h2]
    clear h1 h2 r0 H0
    conv => whnf
    exact ⟨ssV_free (skipF rest v), rfl⟩

theorem tshort_ct (G : Nat → Option (List V)) (hG : G 1 = some wV) (s : List UInt8) (hs : s.length ≤ maxStr) (H : Heap) : Call2 Go.Proofs.Tryd.prog G 83 [.str s] H fun r H' => H' = H ∧ r = ssV (ttake 1 s) := by
  refine Call2.free (fun x hx => by
    simp only [List.mem_cons, List.not_mem_nil, or_false] at hx
    subst hx
    exact .str _) ?_ H
  refine stCall2 Go.Proofs.Tryd.func83 rfl (by decide) ?_
  have h2 := ktake_ct G hG 1 (by decide) s hs
  unfold ssV at h2
  conv => whnf
  refine Call2.mono (h2 _) fun r0 H0 h => ?_
  obtain ⟨h1, h2⟩ := h
  rw [h1, h2]
  clear h1 h2 r0 H0
  conv => whnf
  exact ⟨ssV_free _, rfl⟩
theorem tlong_ct (G : Nat → Option (List V)) (hG : G 1 = some wV) (s : List UInt8) (hs : s.length ≤ maxStr) (H : Heap) : Call2 Go.Proofs.Tryd.prog G 84 [.str s] H fun r H' => H' = H ∧ r = ssV (ttake 4 s) := by
  refine Call2.free (fun x hx => by
    simp only [List.mem_cons, List.not_mem_nil, or_false] at hx
    subst hx
    exact .str _) ?_ H
  refine stCall2 Go.Proofs.Tryd.func84 rfl (by decide) ?_
  have h2 := ktake_ct G hG 4 (by decide) s hs
  unfold ssV at h2
  conv => whnf
  refine Call2.mono (h2 _) fun r0 H0 h => ?_
  obtain ⟨h1, h2⟩ := h
  rw [h1, h2]
  clear h1 h2 r0 H0
  conv => whnf
  exact ⟨ssV_free _, rfl⟩
end Go.Abs.Sig

/-! P3 -/
namespace Go.Abs.Sig
open Go.RowKit Go.Abs
set_option linter.unusedSimpArgs false
set_option linter.unusedVariables false
set_option maxRecDepth 8000
attribute [local irreducible] StCall StYield WPc Weak IterOf Lp2

/-- Lookups by a byte in a map of numbers. -/
def bmap (l : List (Nat × Nat)) : List (V × V) := l.map fun x => (.int .u8 (x.1 : Int), .int .u64 (x.2 : Int))
theorem find_lookup {K : Option (Nat × V) → Prop} {c : Nat} : ∀ (l : List (Nat × Nat)) (i : Nat), (∀ i, match l.lookup c with | some n => K (some (i, .int .u64 (n : Int))) | none => K none) → evFind2 (.int .u8 (c : Int)) K (bmap l) i
  | [], i, h => h i
  | (a, n) :: l, i, h => by
    show br (decide ((c : Int) = (a : Int))) _ _
    by_cases hc : c = a
    · subst hc
      refine br_t (by simp) ?_
      have := h i
      simp at this
      exact this
    · refine br_f (by simp; omega) ?_
      refine find_lookup l (i + 1) fun i => ?_
      have := h i
      rwa [List.lookup_cons, show (c == a) = false by simp [hc]] at this

def szL : List (Nat × Nat) := [(116, 1), (98, 1), (66, 1), (115, 2), (117, 2), (73, 4), (105, 4), (102, 4), (108, 8), (100, 8), (84, 8), (68, 5), (86, 0)]
def szs : List (V × V) := bmap szL
def tkH (d : Int) : Heap := [some (.map szs 13), some (.cells 147 [.mp 0, .int .i64 d])]

theorem sizes_ct (G : Nat → Option (List V)) : Call2 Go.Proofs.Tryd.prog G 88 [] [] fun r H' => r = .mp 0 ∧ H' = [some (.map szs 13)] := by
  refine stCall2 Go.Proofs.Tryd.func88 rfl (by decide) ?_
  conv => whnf
  exact ⟨rfl, rfl⟩

/-- A text and an error. -/
def seV (x : List UInt8 × Int) : V := .tup [.str x.1, .int .i64 x.2]

def itemsF (one : List UInt8 → List UInt8 × Int) : Nat → List UInt8 → Int
  | 0, _ => 0
  | n + 1, s => if s = [] then 0 else if (one s).2 = 2 then 3 else if (one s).2 ≠ 0 then (one s).2 else itemsF one n (one s).1
def withF (dep : Int) (one : List UInt8 → List UInt8 × Int) (s : List UInt8) : List UInt8 × Int :=
  if (ntake s 4).2.2 ≠ 0 then ([], (ntake s 4).2.2) else
  if (skipF (ntake s 4).2.1 (ntake s 4).1).2.2 ≠ 0 then ([], (skipF (ntake s 4).2.1 (ntake s 4).1).2.2) else
  if dep > 32 then ([], 5) else
  ((skipF (ntake s 4).2.1 (ntake s 4).1).2.1, itemsF one (skipF (ntake s 4).2.1 (ntake s 4).1).1.length (skipF (ntake s 4).2.1 (ntake s 4).1).1)

theorem skipF_len (s : List UInt8) (n : Nat) : (skipF s n).1.length ≤ s.length ∧ (skipF s n).2.1.length ≤ s.length ∧ ((skipF s n).2.2 = 0 → (skipF s n).1 ++ (skipF s n).2.1 = s) := by
  unfold skipF
  split
  · simp
  · simp only [List.length_take, List.length_drop, List.take_append_drop, implies_true, and_true]
    omega
theorem ntake_len (s : List UInt8) (n : Nat) : (ntake s n).2.1.length ≤ s.length ∧ ((ntake s n).2.2 = 0 → (ntake s n).2.1.length + n = s.length) := by
  unfold ntake
  split
  · simp
  · simp only [List.length_drop]
    omega

theorem szs_bw {n : Nat} : BW n (some (.map szs 13)) (some (.map szs 13)) := by
  refine .map _ _ _ ?_ ?_ <;> exact .cons (.im _) (.cons (.im _) (.cons (.im _) (.cons (.im _) (.cons (.im _) (.cons (.im _) (.cons (.im _) (.cons (.im _) (.cons (.im _) (.cons (.im _) (.cons (.im _) (.cons (.im _) (.cons (.im _) .nil))))))))))))
theorem tkH_bws (d : Int) : BWs 2 (tkH d) (tkH d) := .cons szs_bw (.cons (.cells _ _ _ (.cons (.mp 0 (by decide)) (.cons (.im _) .nil))) (.nil _))

theorem fn1_vw (f : Nat) : VW 2 (.fn (.func f) [.ptr 1 0] []) (.fn (.func f) [.ptr 1 0] []) := .fn _ _ _ (fun i v h => by
  match i with
  | 0 => cases h; exact .ptr 1 0 (by decide)
  | i + 1 => simp at h) fun i v h => by simp at h

def wiS (dep : Int) (f : Nat) (rest s : List UInt8) (d : Int) : S2 := headS 65 ([.ptr 1 0, .bad, .int .i64 dep, .fn (.func f) [.ptr 1 0] [], .bad, .bad, .bad, .bad, .bad, .bad, .bad, .str rest, .int .i64 0, .str s] ++ List.replicate 51 .bad) (tkH d) [] none

attribute [local irreducible] szs

theorem within_ct (G : Nat → Option (List V)) (hG : G 1 = some wV) (f : Nat) (hf : fnOk Go.Proofs.Tryd.prog f) (dep : Int) (one : List UInt8 → List UInt8 × Int)
    (hone : dep ≤ 32 → ∀ (s : List UInt8) (d : Int), s.length ≤ maxStr → Call2 Go.Proofs.Tryd.prog G f [.ptr 1 0, .str s, .int .i64 dep] (tkH d) fun r H' => ∃ d', H' = tkH d' ∧ r = seV (one s))
    (hsh : ∀ s, s ≠ [] → (one s).2 = 0 → (one s).1.length < s.length) (s : List UInt8) (hs : s.length ≤ maxStr) (d : Int) :
    Call2 Go.Proofs.Tryd.prog G 89 [.ptr 1 0, .str s, .int .i64 dep, .fn (.func f) [.ptr 1 0] []] (tkH d) fun r H' => ∃ d', H' = tkH d' ∧ r = seV (withF dep one s) := by
  refine stCall2 Go.Proofs.Tryd.func89 rfl (by decide) ?_
  have hn := ntake_ct G hG 4 (by decide) s
  have hnl := (ntake_len s 4).1
  unfold withF
  generalize ntake s 4 = x at hn hnl
  obtain ⟨v, rest, e⟩ := x
  unfold ntV at hn
  conv => whnf
  intro hws
  refine wpc_scope2 hws ?_
  conv => whnf
  refine Call2.mono (hn _) fun r0 H0 h => ?_
  obtain ⟨h1, h2⟩ := h
  rw [h1, h2]
  clear h1 h2 r0 H0
  conv => whnf
  by_cases he : e ≠ 0
  · refine br_t (decide_eq_true he) ?_
    conv => whnf
    rw [if_pos he]
    exact ⟨d, rfl, rfl⟩
  · refine br_f (decide_eq_false he) ?_
    rw [if_neg he]
    have hk := skip_ct G rest (Nat.le_trans hnl hs) v
    have hkl := skipF_len rest v
    simp only
    generalize skipF rest v = y at hk hkl
    obtain ⟨inn, left, e2⟩ := y
    unfold ssV at hk
    conv => whnf
    refine Call2.mono (hk _) fun r0 H0 h => ?_
    obtain ⟨h1, h2⟩ := h
    rw [h1, h2]
    clear h1 h2 r0 H0
    conv => whnf
    by_cases he2 : e2 ≠ 0
    · refine br_t (decide_eq_true he2) ?_
      conv => whnf
      rw [if_pos he2]
      exact ⟨d, rfl, rfl⟩
    · refine br_f (decide_eq_false he2) ?_
      rw [if_neg he2]
      have he20 : e2 = 0 := by simpa using he2
      by_cases hd : dep > 32
      · have hd' : decide (32 < dep) = true := decide_eq_true hd
        conv => whnf
        refine br_t hd' ?_
        conv => whnf
        rw [if_pos hd]
        exact ⟨d, rfl, rfl⟩
      · have hd' : decide (32 < dep) = false := decide_eq_false hd
        have hone := hone (by omega)
        rw [if_neg hd]
        conv => whnf
        refine br_f hd' ?_
        conv => whnf
        intro hw
        have hil : inn.length ≤ maxStr := Nat.le_trans hkl.1 (Nat.le_trans hnl hs)
        refine wpc_loop2 (fun n1 s1 => ∃ (q : Nat) (t : List UInt8) (d1 : Int), n1 = t.length ∧ t.length ≤ q ∧ t.length ≤ maxStr ∧ s1 = wiS dep f left t d1 ∧ itemsF one q t = itemsF one inn.length inn) inn.length (wiS dep f left inn (if dep > d then dep else d)) ?_ ⟨inn.length, inn, _, rfl, Nat.le_refl _, hil, rfl, rfl⟩ ?_ ?_
        · exact weak2 hw rfl ⟨.ptr 1 0 (show 1 < 2 by decide), .im _, fn1_vw f, .str _, .int he20, .str _, trivial⟩ (tkH_bws _) (fun id hid => by cases hid) rfl (fun id hid => by cases hid)
        · rintro n1 s1 ⟨q, t, d1, _, _, _, rfl, _⟩
          exact ⟨⟨Nat.le_refl 65, fun x hx => by cases hx⟩, rfl, Nat.le_refl _, rfl⟩
        · rintro n1 s1 ⟨q, t, d1, rfl, hq, htl, rfl, hinv⟩
          by_cases ht : t ≠ []
          · have hc := hone t d1 htl
            have hsh1 := hsh t ht
            have hq0 : q ≠ 0 := fun h => by
              subst h
              exact ht (List.eq_nil_of_length_eq_zero (by omega))
            obtain ⟨q, rfl⟩ := Nat.exists_eq_succ_of_ne_zero hq0
            rw [itemsF, if_neg ht] at hinv
            generalize one t = z at hc hsh1 hinv
            obtain ⟨l1, bad⟩ := z
            unfold seV at hc
            conv => whnf
            refine br_t (decide_eq_true ht) ?_
            conv => whnf
            refine Call2.mono hc fun r0 H0 h => ?_
            obtain ⟨d2, h1, h2⟩ := h
            rw [h1, h2]
            clear h1 h2 r0 H0
            conv => whnf
            by_cases hb2 : bad = 2
            · refine br_t (decide_eq_true hb2) ?_
              rw [if_pos hb2] at hinv
              conv => whnf
              exact ⟨d2, rfl, by rw [← hinv]; rfl⟩
            · refine br_f (decide_eq_false hb2) ?_
              rw [if_neg hb2] at hinv
              conv => whnf
              by_cases hb0 : bad ≠ 0
              · refine br_t (decide_eq_true hb0) ?_
                rw [if_pos hb0] at hinv
                conv => whnf
                exact ⟨d2, rfl, by rw [← hinv]; rfl⟩
              · refine br_f (decide_eq_false hb0) ?_
                rw [if_neg hb0] at hinv
                have hb00 : bad = 0 := by simpa using hb0
                have hll := hsh1 hb00
                simp only at hll hinv
                conv => whnf
                intro hw3
                refine ⟨l1.length, wiS dep f left l1 d2, hll, ?_, q, l1, d2, rfl, by omega, by omega, rfl, hinv⟩
                exact weak2 hw3 rfl ⟨.ptr 1 0 (show 1 < 2 by decide), .im _, fn1_vw f, .str _, .im _, .str _, trivial⟩ (tkH_bws _) (fun id hid => by cases hid) rfl (fun id hid => by cases hid)
          · have ht0 : t = [] := by simpa using ht
            subst ht0
            have hz : itemsF one q [] = 0 := by cases q <;> simp [itemsF]
            rw [hz] at hinv
            conv => whnf
            exact ⟨d1, rfl, by rw [← hinv]; rfl⟩
end Go.Abs.Sig

/-! P4 -/
namespace Go.Abs.Sig
open Go.RowKit Go.Abs
set_option linter.unusedSimpArgs false
set_option linter.unusedVariables false
set_option maxRecDepth 8000
attribute [local irreducible] StCall StYield WPc Weak IterOf Lp2
theorem find_szs {K : Option (Nat × V) → Prop} {c : Nat} (i : Nat) (h : ∀ i, match szL.lookup c with | some n => K (some (i, .int .u64 (n : Int))) | none => K none) : evFind2 (.int .u8 (c : Int)) K szs i := find_lookup szL i h
attribute [local irreducible] szs szL

/-- What table.value answers, of what nested rows answer. -/
def valB (wA wF : List UInt8 → List UInt8 × Int) : List UInt8 → List UInt8 × Int
  | [] => ([], 2)
  | c :: t => match szL.lookup c.toNat with
    | some n => (skipF t n).2
    | none => if c = 83 ∨ c = 120 then (ttake 4 t).2 else if c = 65 then wA t else if c = 70 then wF t else ([], 3)
def fldF (val : List UInt8 → List UInt8 × Int) (s : List UInt8) : List UInt8 × Int := if (ttake 1 s).2.2 ≠ 0 then ([], (ttake 1 s).2.2) else val (ttake 1 s).2.1
def valF : Nat → List UInt8 → List UInt8 × Int
  | 0 => valB (withF 33 fun _ => ([], 0)) (withF 33 fun _ => ([], 0))
  | r + 1 => valB (withF (32 - (r : Int)) (valF r)) (withF (32 - (r : Int)) (fldF (valF r)))

theorem ttake_len (n : Nat) (s : List UInt8) : (ttake n s).2.1.length ≤ s.length ∧ ((ttake n s).2.2 = 0 → (ttake n s).2.1.length + n ≤ s.length) := by
  unfold ttake
  have h1 := ntake_len s n
  split
  · rename_i h
    exact ⟨Nat.zero_le _, fun h2 => absurd h2 h⟩
  · have h2 := skipF_len (ntake s n).2.1 (ntake s n).1
    rename_i h
    have h3 := h1.2 (by simpa using h)
    exact ⟨by omega, fun _ => by omega⟩

theorem withF_len (dep : Int) (one : List UInt8 → List UInt8 × Int) (s : List UInt8) : (withF dep one s).2 = 0 → (withF dep one s).1.length ≤ s.length := by
  unfold withF
  have h1 := ntake_len s 4
  have h2 := skipF_len (ntake s 4).2.1 (ntake s 4).1
  split
  · intro _; exact Nat.zero_le _
  · split
    · intro _; exact Nat.zero_le _
    · split
      · intro _; exact Nat.zero_le _
      · intro _; simp only; omega

theorem valB_len {wA wF : List UInt8 → List UInt8 × Int} (hA : ∀ s, (wA s).2 = 0 → (wA s).1.length ≤ s.length) (hF : ∀ s, (wF s).2 = 0 → (wF s).1.length ≤ s.length) (s : List UInt8) : (valB wA wF s).2 = 0 → (valB wA wF s).1.length < s.length := by
  cases s with
  | nil => intro h; cases h
  | cons c t =>
    unfold valB
    simp only [List.length_cons]
    split
    · intro _; have := (skipF_len t (by assumption)).2.1; omega
    · split
      · intro _; have := (ttake_len 4 t).1; omega
      · split
        · intro h; have := hA t h; omega
        · split
          · intro h; have := hF t h; omega
          · intro h; cases h

theorem fldF_len {val : List UInt8 → List UInt8 × Int} (hv : ∀ s, (val s).2 = 0 → (val s).1.length < s.length) (s : List UInt8) : (fldF val s).2 = 0 → (fldF val s).1.length < s.length := by
  unfold fldF
  split
  · rename_i h; exact fun h2 => absurd h2 h
  · intro h; have := hv _ h; have := (ttake_len 1 s).1; omega

theorem valF_len : ∀ (r : Nat) (s : List UInt8), (valF r s).2 = 0 → (valF r s).1.length < s.length
  | 0, s => valB_len (withF_len _ _) (withF_len _ _) s
  | r + 1, s => valB_len (withF_len _ _) (withF_len _ _) s

/-- The contract of table.value at a depth. -/
def ValOk (G : Nat → Option (List V)) (r : Nat) : Prop := ∀ (s : List UInt8) (d : Int), s.length ≤ maxStr → Call2 Go.Proofs.Tryd.prog G 98 [.ptr 1 0, .str s, .int .i64 (32 - (r : Int))] (tkH d) fun x H' => ∃ d', H' = tkH d' ∧ x = seV (valF r s)

theorem field_ct (G : Nat → Option (List V)) (hG : G 1 = some wV) (r : Nat) (hv : ValOk G r) (s : List UInt8) (d : Int) (hs : s.length ≤ maxStr) :
    Call2 Go.Proofs.Tryd.prog G 90 [.ptr 1 0, .str s, .int .i64 (32 - (r : Int))] (tkH d) fun x H' => ∃ d', H' = tkH d' ∧ x = seV (fldF (valF r) s) := by
  refine stCall2 Go.Proofs.Tryd.func90 rfl (by decide) ?_
  have h1 := tshort_ct G hG s hs
  have hl := (ttake_len 1 s).1
  unfold fldF
  generalize ttake 1 s = x at h1 hl
  obtain ⟨a, rest, e⟩ := x
  unfold ssV at h1
  conv => whnf
  refine Call2.mono (h1 _) fun r0 H0 h => ?_
  obtain ⟨h1, h2⟩ := h
  rw [h1, h2]
  clear h1 h2 r0 H0
  conv => whnf
  by_cases he : e ≠ 0
  · refine br_t (decide_eq_true he) ?_
    rw [if_pos he]
    conv => whnf
    exact ⟨d, rfl, rfl⟩
  · refine br_f (decide_eq_false he) ?_
    rw [if_neg he]
    have h2 := hv rest d (Nat.le_trans hl hs)
    simp only
    unfold seV at h2
    conv => whnf
    refine Call2.mono h2 fun r0 H0 h => ?_
    obtain ⟨d2, h3, h4⟩ := h
    rw [h3, h4]
    clear h3 h4 r0 H0
    conv => whnf
    exact ⟨d2, rfl, rfl⟩

theorem fn98 : fnOk Go.Proofs.Tryd.prog 98 := ⟨_, Go.Proofs.Tryd.func98, rfl, by decide⟩
theorem fn90 : fnOk Go.Proofs.Tryd.prog 90 := ⟨_, Go.Proofs.Tryd.func90, rfl, by decide⟩

theorem u8_ne {c : UInt8} {n : Nat} (h : n < 256) : c.toNat = n ↔ c = UInt8.ofNat n := by
  constructor
  · intro hc; rw [← hc]; simp
  · intro hc; subst hc; simp; omega

theorem value_core (G : Nat → Option (List V)) (hG : G 1 = some wV) (wA wF : List UInt8 → List UInt8 × Int) (dep dep1 : Int) (hdep : IntKind.i64.wrap (dep + 1) = dep1)
    (hA : ∀ (s : List UInt8) (d : Int), s.length ≤ maxStr → Call2 Go.Proofs.Tryd.prog G 89 [.ptr 1 0, .str s, .int .i64 dep1, .fn (.func 98) [.ptr 1 0] []] (tkH d) fun r H' => ∃ d', H' = tkH d' ∧ r = seV (wA s))
    (hF : ∀ (s : List UInt8) (d : Int), s.length ≤ maxStr → Call2 Go.Proofs.Tryd.prog G 89 [.ptr 1 0, .str s, .int .i64 dep1, .fn (.func 90) [.ptr 1 0] []] (tkH d) fun r H' => ∃ d', H' = tkH d' ∧ r = seV (wF s))
    (s : List UInt8) (d : Int) (hs : s.length ≤ maxStr) :
    Call2 Go.Proofs.Tryd.prog G 98 [.ptr 1 0, .str s, .int .i64 dep] (tkH d) fun x H' => ∃ d', H' = tkH d' ∧ x = seV (valB wA wF s) := by
  refine stCall2 Go.Proofs.Tryd.func98 rfl (by decide) ?_
  cases s with
  | nil =>
    conv => whnf
    exact ⟨d, rfl, rfl⟩
  | cons c t =>
    have hl' : t.length ≤ maxStr := by simp only [List.length_cons] at hs; omega
    have hdr : List.drop (1 : Int).toNat (List.take (((c :: t).length : Nat) : Int).toNat (c :: t)) = t := by rw [Int.toNat_natCast, List.take_length]; rfl
    conv => whnf
    intro hw
    refine wpc_draw2 12 (by rfl) (by decide) (by decide) hw ?_
    conv => whnf
    refine grd_intro rfl (find_szs 0 fun i => ?_)
    cases hlk : szL.lookup c.toNat with
    | some n =>
      simp only
      conv => whnf
      refine ⟨⟨by omega, by simp only [List.length_cons]; omega, by omega⟩, ?_⟩
      rw [hdr]
      have hk := skip_ct G t hl' n
      unfold ssV at hk
      conv => whnf
      refine Call2.mono (hk _) fun r0 H0 h => ?_
      obtain ⟨h1, h2⟩ := h
      rw [h1, h2]
      clear h1 h2 r0 H0
      conv => whnf
      exact ⟨d, rfl, by simp only [valB, hlk]; rfl⟩
    | none =>
      have hx : (if c = 83 ∨ c = 120 then (ttake 4 t).2 else if c = 65 then wA t else if c = 70 then wF t else ([], 3)) = valB wA wF (c :: t) := by unfold valB; simp only [hlk]
      simp only
      conv => whnf
      by_cases h83 : c.toNat = 83
      · refine br_t (decide_eq_true (by omega)) ?_
        have hc : c = 83 := (u8_ne (by decide)).1 h83
        rw [if_pos (.inl hc)] at hx
        conv => whnf
        refine ⟨⟨by omega, by simp only [List.length_cons]; omega, by omega⟩, ?_⟩
        rw [hdr]
        conv => whnf
        have hk := tlong_ct G hG t hl'
        generalize ttake 4 t = z at hk hx
        obtain ⟨z1, z2, z3⟩ := z
        unfold ssV at hk
        refine Call2.mono (hk _) fun r0 H0 h => ?_
        obtain ⟨h1, h2⟩ := h
        rw [h1, h2]
        clear h1 h2 r0 H0
        conv => whnf
        exact ⟨d, rfl, by rw [← hx]; rfl⟩
      · refine br_f (decide_eq_false (by omega)) ?_
        have hc83 : c ≠ 83 := fun h => h83 (by rw [h]; rfl)
        conv => whnf
        by_cases h120 : c.toNat = 120
        · have hc : c = 120 := (u8_ne (by decide)).1 h120
          rw [if_pos (.inr hc)] at hx
          refine br_t (decide_eq_true (by omega)) ?_
          conv => whnf
          refine ⟨⟨by omega, by simp only [List.length_cons]; omega, by omega⟩, ?_⟩
          rw [hdr]
          conv => whnf
          have hk := tlong_ct G hG t hl'
          generalize ttake 4 t = z at hk hx
          obtain ⟨z1, z2, z3⟩ := z
          unfold ssV at hk
          refine Call2.mono (hk _) fun r0 H0 h => ?_
          obtain ⟨h1, h2⟩ := h
          rw [h1, h2]
          clear h1 h2 r0 H0
          conv => whnf
          exact ⟨d, rfl, by rw [← hx]; rfl⟩
        · have hc120 : c ≠ 120 := fun h => h120 (by rw [h]; rfl)
          rw [if_neg (by simp [hc83, hc120])] at hx
          refine br_f (decide_eq_false (by omega)) ?_
          conv => whnf
          by_cases h65 : c.toNat = 65
          · have hc : c = 65 := (u8_ne (by decide)).1 h65
            rw [if_pos hc] at hx
            refine br_t (decide_eq_true (by omega)) ?_
            have hW := hA t d hl'
            rw [hx] at hW
            conv => whnf
            refine ⟨⟨by omega, by simp only [List.length_cons]; omega, by omega⟩, ?_⟩
            rw [hdr]
            conv => whnf
            rw [hdep]
            refine Call2.mono hW fun r0 H0 h => ?_
            obtain ⟨d2, h3, h4⟩ := h
            rw [h3, h4]
            clear h3 h4 r0 H0
            conv => whnf
            exact ⟨d2, rfl, rfl⟩
          · have hc65 : c ≠ 65 := fun h => h65 (by rw [h]; rfl)
            rw [if_neg hc65] at hx
            refine br_f (decide_eq_false (by omega)) ?_
            conv => whnf
            by_cases h70 : c.toNat = 70
            · have hc : c = 70 := (u8_ne (by decide)).1 h70
              rw [if_pos hc] at hx
              refine br_t (decide_eq_true (by omega)) ?_
              have hW := hF t d hl'
              rw [hx] at hW
              conv => whnf
              refine ⟨⟨by omega, by simp only [List.length_cons]; omega, by omega⟩, ?_⟩
              rw [hdr]
              conv => whnf
              rw [hdep]
              refine Call2.mono hW fun r0 H0 h => ?_
              obtain ⟨d2, h3, h4⟩ := h
              rw [h3, h4]
              clear h3 h4 r0 H0
              conv => whnf
              exact ⟨d2, rfl, rfl⟩
            · have hc70 : c ≠ 70 := fun h => h70 (by rw [h]; rfl)
              rw [if_neg hc70] at hx
              refine br_f (decide_eq_false (by omega)) ?_
              conv => whnf
              exact ⟨d, rfl, by rw [← hx]; rfl⟩

theorem value_ct (G : Nat → Option (List V)) (hG : G 1 = some wV) : ∀ r, r ≤ 31 → ValOk G r := by
  intro r
  induction r with
  | zero =>
    intro _ s d hs
    refine value_core G hG (withF 33 fun _ => ([], 0)) (withF 33 fun _ => ([], 0)) _ 33 rfl (fun s d hs => ?_) (fun s d hs => ?_) s d hs
    · exact within_ct G hG _ fn98 33 _ (fun h => by omega) (fun s hs _ => by cases s <;> simp at hs ⊢) s hs d
    · exact within_ct G hG _ fn90 33 _ (fun h => by omega) (fun s hs _ => by cases s <;> simp at hs ⊢) s hs d
  | succ r ih =>
    intro hr s d hs
    have ih := ih (by omega)
    refine value_core G hG (withF (32 - (r : Int)) (valF r)) (withF (32 - (r : Int)) (fldF (valF r))) _ (32 - (r : Int)) (by rw [wrap_i64 (by omega) (by omega)]; omega) (fun s d hs => ?_) (fun s d hs => ?_) s d hs
    · exact within_ct G hG _ fn98 _ _ (fun _ s d hs => ih s d hs) (fun s _ => valF_len r s) s hs d
    · exact within_ct G hG _ fn90 _ _ (fun _ s d hs => field_ct G hG r ih s d hs) (fun s _ => fldF_len (valF_len r) s) s hs d

/-- What a table's fields within the first level answer. -/
def tabF (s : List UInt8) : List UInt8 × Int := withF 1 (fldF (valF 31)) s
def takenF (s : List UInt8) (x : List UInt8 × Int) : List UInt8 × List UInt8 × Int := if x.2 ≠ 0 then ([], [], x.2) else (s.take (s.length - x.1.length), x.1, 0)
/-- What table.Take answers. -/
def tblF (s : List UInt8) : List UInt8 × List UInt8 × Int := takenF s (tabF s)

theorem taken_ct (G : Nat → Option (List V)) (s rest : List UInt8) (e : Int) (hs : s.length ≤ maxStr) (hr : e = 0 → rest.length ≤ s.length) (H : Heap) : Call2 Go.Proofs.Tryd.prog G 91 [.str s, .str rest, .int .i64 e] H fun r H' => H' = H ∧ r = ssV (takenF s (rest, e)) := by
  refine Call2.free (fun x hx => by
    simp only [List.mem_cons, List.not_mem_nil, or_false] at hx
    rcases hx with rfl | rfl | rfl
    · exact .str _
    · exact .str _
    · exact .im _) ?_ H
  refine stCall2 Go.Proofs.Tryd.func91 rfl (by decide) ?_
  have hs' : s.length ≤ 1152921504606846976 := hs
  unfold takenF
  conv => whnf
  by_cases he : e ≠ 0
  · refine br_t (decide_eq_true he) ?_
    conv => whnf
    rw [if_pos he]
    exact ⟨ssV_free ([], [], e), rfl⟩
  · refine br_f (decide_eq_false he) ?_
    rw [if_neg he]
    have hr := hr (by simpa using he)
    have hw : IntKind.i64.wrap ((s.length : Int) - (rest.length : Int)) = ((s.length - rest.length : Nat) : Int) := by rw [wrap_i64 (by omega) (by omega)]; omega
    conv => whnf
    rw [hw]
    refine ⟨⟨by omega, by omega, by omega⟩, ?_⟩
    conv => whnf
    exact ⟨ssV_free (s.take (s.length - rest.length), rest, 0), rfl⟩

theorem table_ct (G : Nat → Option (List V)) (hG : G 1 = some wV) (s : List UInt8) (hs : s.length ≤ maxStr) (H : Heap) : Call2 Go.Proofs.Tryd.prog G 81 [.str s] H fun r H' => H' = H ∧ r = ssV (tblF s) := by
  refine Call2.free (fun x hx => by
    simp only [List.mem_cons, List.not_mem_nil, or_false] at hx
    subst hx
    exact .str _) ?_ H
  refine stCall2 Go.Proofs.Tryd.func81 rfl (by decide) ?_
  have hwi := within_ct G hG _ fn90 1 (fldF (valF 31)) (fun _ s d hs => field_ct G hG 31 (value_ct G hG 31 (by omega)) s d hs) (fun s _ => fldF_len (valF_len 31) s) s hs 0
  have hl := withF_len 1 (fldF (valF 31)) s
  unfold tblF tabF
  generalize withF 1 (fldF (valF 31)) s = x at hwi hl
  obtain ⟨rest, e⟩ := x
  have ht := taken_ct G s rest e hs hl
  unfold seV at hwi
  unfold ssV at ht
  conv => whnf
  refine Call2.mono (sizes_ct G) fun r0 H0 h => ?_
  obtain ⟨h1, h2⟩ := h
  rw [h1, h2]
  clear h1 h2 r0 H0
  conv => whnf
  refine Call2.mono hwi fun r0 H0 h => ?_
  obtain ⟨d2, h1, h2⟩ := h
  rw [h1, h2]
  clear h1 h2 r0 H0
  conv => whnf
  refine Call2.mono (ht _) fun r0 H0 h => ?_
  obtain ⟨h1, h2⟩ := h
  rw [h1, h2]
  clear h1 h2 r0 H0
  conv => whnf
  exact ⟨ssV_free _, rfl⟩
end Go.Abs.Sig

/-! P5 -/
namespace Go.Abs.Sig
open Go.RowKit Go.Abs
set_option linter.unusedSimpArgs false
set_option linter.unusedVariables false
set_option maxRecDepth 8000
attribute [local irreducible] StCall StYield WPc Weak IterOf Lp2

/-- Is a value a table? -/
def tbBad (s : List UInt8) : Bool := bsel (decide ((tblF s).2.2 ≠ 0)) true (bsel (decide ((tblF s).2.1 ≠ [])) true (decide ((tblF s).1 = [])))
def tbv (v : Val') : Int := if v.1 ≠ 0 then 1 else if tbBad v.2 then 3 else 0

theorem wtab_ct (G : Nat → Option (List V)) (hG : G 1 = some wV) (v : Val') (hs : v.2.length ≤ maxStr) (H : Heap) : Call2 Go.Proofs.Tryd.prog G 63 [.int .i64 (-1), .agg (vcells v)] H fun r H' => H' = H ∧ r = .int .i64 (tbv v) := by
  refine Call2.free (fun x hx => by
    simp only [List.mem_cons, List.not_mem_nil, or_false] at hx
    rcases hx with rfl | rfl
    · exact .im _
    · exact vcells_free v) ?_ H
  refine stCall2 Go.Proofs.Tryd.func63 rfl (by decide) ?_
  have ht := table_ct G hG v.2 hs
  unfold tbv tbBad
  generalize tblF v.2 = x at ht
  obtain ⟨a, rest, e⟩ := x
  unfold ssV at ht
  conv => whnf
  by_cases h0 : v.1 ≠ 0
  · refine br_t (decide_eq_true h0) ?_
    conv => whnf
    rw [if_pos h0]
    exact ⟨.im _, rfl⟩
  · refine br_f (decide_eq_false h0) ?_
    rw [if_neg h0]
    conv => whnf
    refine Call2.mono (ht _) fun r0 H0 h => ?_
    obtain ⟨h1, h2⟩ := h
    rw [h1, h2]
    clear h1 h2 r0 H0
    conv => whnf
    simp only
    by_cases he : e ≠ 0
    · have hd := decide_eq_true he
      refine br_t hd ?_
      rw [hd]
      conv => whnf
      exact ⟨.im _, rfl⟩
    · have hd := decide_eq_false he
      refine br_f hd ?_
      rw [hd]
      by_cases hr : rest ≠ []
      · have hdr := decide_eq_true hr
        rw [hdr]
        conv => whnf
        rw [hdr]
        conv => whnf
        exact ⟨.im _, rfl⟩
      · have hdr := decide_eq_false hr
        rw [hdr]
        conv => whnf
        rw [hdr]
        conv => whnf
        by_cases ha : a = []
        · have hda := decide_eq_true ha
          rw [hda]
          conv => whnf
          exact ⟨.im _, rfl⟩
        · have hda := decide_eq_false ha
          rw [hda]
          conv => whnf
          exact ⟨.im _, rfl⟩

theorem tbOk (G : Nat → Option (List V)) (hG : G 1 = some wV) : TbOk G tbv := by
  intro v q H hv h2 hq
  refine Call2.inScope ⟨_, Go.Proofs.Tryd.func66, rfl, by decide⟩ fun hs => ?_
  refine Call2.cut ?_
  refine stCall2 Go.Proofs.Tryd.func66 rfl (by decide) ?_
  conv => whnf
  rw [get_old h2]
  conv => whnf
  rw [get_old hq]
  conv => whnf
  try simp only [List.append_assoc, List.cons_append, List.nil_append, List.length_append, List.length_cons, List.length_nil, Nat.zero_add, Nat.add_assoc, Nat.reduceAdd, ga0, ga1, ga2, ga3, ga4, ga5, sa0, sa1, sa2, sa3, sa4, sa5, S2.setH_H, List.all_cons, List.all_nil, isDefd, nodupB, List.any_nil, Bool.and_true, Bool.not_false, List.foldl_cons, List.foldl_nil]
  conv => whnf
  refine Call2.mono (wtab_ct G hG v hv _) fun r0 H0 h => ?_
  obtain ⟨h1, h2⟩ := h
  rw [h1, h2]
  clear h1 h2 r0 H0
  conv => whnf
  exact ⟨_, Cut.app (X := [some (.cells 32 (vcells v))]) hs rfl, .im _, rfl, rfl⟩
end Go.Abs.Sig

/-! N9 -/
namespace Go.Abs.Sig
open Go.RowKit Go.Abs
set_option linter.unusedSimpArgs false
set_option linter.unusedVariables false
set_option maxRecDepth 8000
attribute [local irreducible] StCall StYield WPc Weak IterOf Lp2

theorem shownM_ct (G : Nat → Option (List V)) (hG : G 1 = some wV) (H : Heap) : Call2 Go.Proofs.Tryd.prog G 22 [] H fun r H' => H' = H ∧ r = .bool true := by
  refine Call2.free (fun x hx => by cases hx) ?_ H
  refine stCall2 Go.Proofs.Tryd.func22 rfl (by decide) ?_
  have hm := mbytes_ct G hG tbv (10, 51, []) (fun h => tbOk G hG) (fun v hv => by cases hv)
  have he : mbytes tbv (10, 51, []) = ([0, 10, 0, 51], 0) := by decide
  rw [he] at hm
  conv => whnf
  refine Call2.mono (Call2.weakA (.cons (vw_metE (l := []) (.inr rfl)) .nil) (hm _)) fun r0 H0 h => ?_
  obtain ⟨h1, h2⟩ := h
  rw [h1, h2]
  clear h1 h2 r0 H0
  conv => whnf
  exact ⟨.im _, rfl⟩

theorem methodArgs_ct (G : Nat → Option (List V)) (hG : G 1 = some wV) (m : Met) (i : Int) (v : Val') (hb : m.2.2.length * 24 ≤ maxBytes) (H : Heap) :
    Call2 Go.Proofs.Tryd.prog G 8 [.agg (mcells m), .int .i64 i, .agg (vcells v)] H fun r H' => H' = H ∧ r = .bool true := by
  refine Call2.free wargs_free ?_ H
  refine stCall2 Go.Proofs.Tryd.func8 rfl (by decide) ?_
  have hl : m.2.2.length ≤ maxLen := by simp only [maxBytes] at hb; simp only [maxLen]; omega
  have hs := rsame_ct G (withOf m i v) (withOf m i v) (by unfold withOf; split <;> simpa using hl)
  rw [decide_eq_true rfl] at hs
  conv => whnf
  refine Call2.mono (shownM_ct G hG _) fun r0 H0 h => ?_
  obtain ⟨h1, h2⟩ := h
  rw [h1, h2]
  clear h1 h2 r0 H0
  conv => whnf
  intro hw
  refine wpc_draw2 10 (by rfl) (by decide) (by decide) hw ?_
  conv => whnf
  refine ⟨_, fun _ _ => with_ct G m i v hb _, ?_⟩
  conv => whnf
  refine ⟨_, fun _ _ => rwith_ct G m i v hb _, ?_⟩
  conv => whnf
  refine ⟨_, fun _ _ => hs _, ?_⟩
  conv => whnf
  intro hw2
  refine wpc_draw2 14 (by rfl) (by decide) (by decide) hw2 ?_
  conv => whnf
  refine ⟨_, fun _ _ => arg_ct G m i _, ?_⟩
  conv => whnf
  refine ⟨_, fun _ _ => rarg_ct G m i _, ?_⟩
  conv => whnf
  refine EqT.eql eqT32 flat32 (eq32 _ _) ?_
  conv => whnf
  refine ⟨.im _, ?_⟩
  show V.bool (decide (argOf m i = argOf m i)) = V.bool true
  simp

/-- What MethodArg is asked of. -/
def maCells (m : Met) (i : Int) (v : Val') (k : Int) : List V := mcells m ++ [.int .i64 i] ++ vcells v ++ [.int .i64 k]

theorem argOf_with (m : Met) (i : Int) (v : Val') (k : Int) (h : out m i = false) : argOf (withOf m i v) k = if k = i then v else argOf m k := by
  have hw : withOf m i v = (m.1, m.2.1, m.2.2.set i.toNat v) := by unfold withOf; rw [h]; rfl
  rw [hw]
  unfold out at h
  simp only [Bool.or_eq_false_iff, decide_eq_false_iff_not] at h
  have ho : out (m.1, m.2.1, m.2.2.set i.toNat v) k = out m k := by simp [out]
  unfold argOf
  rw [ho]
  cases hk : out m k with
  | true =>
    have : k ≠ i := by
      rintro rfl
      unfold out at hk
      simp only [Bool.or_eq_true, decide_eq_true_eq] at hk
      omega
    simp [this]
  | false =>
    unfold out at hk
    simp only [Bool.or_eq_false_iff, decide_eq_false_iff_not] at hk
    simp only [Bool.false_eq_true, if_false]
    by_cases hki : k = i
    · subst hki
      rw [if_pos rfl, List.getElem?_set_self (by omega)]
      rfl
    · rw [if_neg hki, List.getElem?_set_ne (by omega)]

theorem vv (x : Val') : (decide (x.1 = x.1) && (decide (x.2 = x.2) && true)) = true := by simp
theorem methodArg_ct (G : Nat → Option (List V)) (hG : G 1 = some wV) (m : Met) (i : Int) (v : Val') (k : Int) (hb : m.2.2.length * 24 ≤ maxBytes) (H : Heap) :
    Call2 Go.Proofs.Tryd.prog G 10 [.agg (maCells m i v k)] H fun r H' => H' = H ∧ r = .bool true := by
  refine Call2.free (fun x hx => by
    simp only [List.mem_cons, List.not_mem_nil, or_false] at hx
    subst hx
    refine .agg _ fun y hy => ?_
    simp only [maCells, mcells, vcells, List.mem_append, List.mem_cons, List.not_mem_nil, or_false] at hy
    rcases hy with ((((rfl | rfl | rfl) | rfl) | rfl | rfl) | rfl)
    · exact .im _
    · exact .im _
    · exact .dat _ _ _ (by simp)
    · exact .im _
    · exact .im _
    · exact .str _
    · exact .im _) ?_ H
  refine stCall2 Go.Proofs.Tryd.func10 rfl (by decide) ?_
  have hl : m.2.2.length ≤ maxLen := by simp only [maxBytes] at hb; simp only [maxLen]; omega
  conv => whnf
  refine Call2.mono (shownM_ct G hG _) fun r0 H0 h => ?_
  obtain ⟨h1, h2⟩ := h
  rw [h1, h2]
  clear h1 h2 r0 H0
  conv => whnf
  refine Call2.mono (with_ct G m i v hb _) fun r0 H0 h => ?_
  obtain ⟨h1, h2⟩ := h
  rw [h1, h2]
  clear h1 h2 r0 H0
  conv => whnf
  have hws : withOf m i v = m → ∀ H, Call2 Go.Proofs.Tryd.prog G 25 [.agg (mcells (withOf m i v)), .agg (mcells m)] H fun r H' => H' = H ∧ r = .bool true := fun h H => by
    have := rsame_ct G (withOf m i v) m (by rw [h]; exact hl) H
    rwa [decide_eq_true h] at this
  by_cases h0 : i < 0
  · have ho : out m i = true := by simp [out, h0]
    have hd := decide_eq_true h0
    rw [hd]
    conv => whnf
    have hwm : withOf m i v = m := by unfold withOf; rw [ho]; rfl
    have ha : argOf m i = (0, []) := by unfold argOf; rw [ho]; rfl
    refine Call2.mono (hws hwm _) fun r0 H0 h => ?_
    obtain ⟨h1, h2⟩ := h
    rw [h1, h2]
    clear h1 h2 r0 H0
    conv => whnf
    refine Call2.mono (arg_ct G m i _) fun r0 H0 h => ?_
    obtain ⟨h1, h2⟩ := h
    rw [h1, h2]
    clear h1 h2 r0 H0
    conv => whnf
    rw [ha]
    refine EqT.eql eqT32 flat32 (eq32 (0, []) (0, [])) ?_
    conv => whnf
    exact ⟨.im _, rfl⟩
  · have hd := decide_eq_false h0
    rw [hd]
    by_cases h1 : i ≥ (m.2.2.length : Int)
    · have ho : out m i = true := by simp [out, h1]
      have hd1 : decide (((vals m.2.2).length : Int) ≤ i) = true := decide_eq_true (by simpa [vals] using h1)
      conv => whnf
      refine br_t hd1 ?_
      conv => whnf
      have hwm : withOf m i v = m := by unfold withOf; rw [ho]; rfl
      have ha : argOf m i = (0, []) := by unfold argOf; rw [ho]; rfl
      refine Call2.mono (hws hwm _) fun r0 H0 h => ?_
      obtain ⟨h1, h2⟩ := h
      rw [h1, h2]
      clear h1 h2 r0 H0
      conv => whnf
      refine Call2.mono (arg_ct G m i _) fun r0 H0 h => ?_
      obtain ⟨h1, h2⟩ := h
      rw [h1, h2]
      clear h1 h2 r0 H0
      conv => whnf
      rw [ha]
      refine EqT.eql eqT32 flat32 (eq32 (0, []) (0, [])) ?_
      conv => whnf
      exact ⟨.im _, rfl⟩
    · have ho : out m i = false := by simp [out, h0, h1]
      have hd1 : decide (((vals m.2.2).length : Int) ≤ i) = false := decide_eq_false (by simpa [vals] using h1)
      conv => whnf
      refine br_f hd1 ?_
      conv => whnf
      intro hw
      have ai := argOf_with m i v i ho
      rw [if_pos rfl] at ai
      have hwl : (vals (withOf m i v).2.2).length = (vals m.2.2).length := by unfold withOf; rw [ho]; simp [vals]
      refine wpc_draw2 32 (by rfl) (by decide) (by decide) hw ?_
      conv => whnf
      refine ⟨_, fun _ _ => arg_ct G (withOf m i v) i _, ?_⟩
      rw [ai]
      conv => whnf
      refine EqT.eql eqT32 flat32 (eq32 v v) ?_
      rw [decide_eq_true rfl]
      conv => whnf
      by_cases hki : k = i
      · have hdk := decide_eq_true hki
        rw [hdk]
        conv => whnf
        refine ⟨.im _, ?_⟩
        show V.bool (decide (((vals (withOf m i v).2.2).length : Int) = ((vals m.2.2).length : Int))) = _
        rw [hwl]
        simp
      · have hdk := decide_eq_false hki
        have ak := argOf_with m i v k ho
        rw [if_neg hki] at ak
        rw [hdk]
        conv => whnf
        refine ⟨_, fun _ _ => arg_ct G (withOf m i v) k _, ?_⟩
        rw [ak]
        conv => whnf
        refine ⟨_, fun _ _ => arg_ct G m k _, ?_⟩
        conv => whnf
        refine EqT.eql eqT32 flat32 (eq32 _ _) ?_
        rw [decide_eq_true rfl]
        conv => whnf
        refine ⟨.im _, ?_⟩
        show V.bool (decide (((vals (withOf m i v).2.2).length : Int) = ((vals m.2.2).length : Int))) = _
        rw [hwl]
        simp
end Go.Abs.Sig

/-! SH1 -/
namespace Go.Abs.Sig
open Go.RowKit Go.Abs Go.ChangeShapes Go.WideShapes Go.ChangeAt
set_option linter.unusedSimpArgs false
set_option linter.unusedVariables false
set_option maxRecDepth 8000

theorem reach_le : reachBytes ≤ maxBytes := by decide

theorem sh_int {n : Nat} {t : TypeId} {k : IntKind} {vs : List V} (hu : Program.underlying Go.Proofs.Tryd.prog t = some (.int k)) (h : Sh Go.Proofs.Tryd.prog (n + 1) t vs) : ∃ x, vs = [.im (.int k x)] ∧ (Lit.int k x).wf = true := by
  unfold Sh at h
  rw [hu] at h
  exact h
theorem sh_bool {n : Nat} {t : TypeId} {vs : List V} (hu : Program.underlying Go.Proofs.Tryd.prog t = some .bool) (h : Sh Go.Proofs.Tryd.prog (n + 1) t vs) : ∃ b, vs = [.im (.bool b)] := by
  unfold Sh at h
  rw [hu] at h
  exact h
theorem sh_str {n : Nat} {t : TypeId} {vs : List V} (hu : Program.underlying Go.Proofs.Tryd.prog t = some .string) (h : Sh Go.Proofs.Tryd.prog (n + 1) t vs) : ∃ l : List UInt8, vs = [.str l] ∧ l.length ≤ maxBytes := by
  unfold Sh at h
  rw [hu] at h
  obtain ⟨l, h1, h2⟩ := h
  exact ⟨l, h1, Nat.le_trans h2 reach_le⟩
theorem sh_slice {n : Nat} {t e : TypeId} {vs : List V} (hu : Program.underlying Go.Proofs.Tryd.prog t = some (.slice e)) (h : Sh Go.Proofs.Tryd.prog (n + 1) t vs) : ∃ rows, vs = [.dat (Program.cellsOf Go.Proofs.Tryd.prog e) rows .no] ∧ rows.length * Program.bytesOf Go.Proofs.Tryd.prog e ≤ reachBytes ∧ ∀ r ∈ rows, Sh Go.Proofs.Tryd.prog n e r := by
  unfold Sh at h
  rw [hu] at h
  exact h
theorem sh_struct {n : Nat} {t : TypeId} {fs : Array Field} {vs : List V} (hu : Program.underlying Go.Proofs.Tryd.prog t = some (.struct fs)) (h : Sh Go.Proofs.Tryd.prog (n + 1) t vs) : ShFs (Sh Go.Proofs.Tryd.prog n) fs.toList vs := by
  unfold Sh at h
  rw [hu] at h
  exact h

theorem wf_u64 {n : Int} (h : (Lit.int .u64 n).wf = true) : 0 ≤ n ∧ n ≤ 18446744073709551615 := by
  simp only [Lit.wf, Bool.and_eq_true, decide_eq_true_eq] at h
  exact h

/-- Rows of a kind. -/
theorem rows_of {α : Type} {f : α → List V} {Q : α → Prop} : ∀ (rows : List (List V)), (∀ r ∈ rows, ∃ x, r = f x ∧ Q x) → ∃ l : List α, rows = l.map f ∧ ∀ x ∈ l, Q x
  | [], _ => ⟨[], rfl, fun x h => by cases h⟩
  | r :: rows, h => by
    obtain ⟨x, rfl, hx⟩ := h r (by simp)
    obtain ⟨l, rfl, hl⟩ := rows_of rows fun r hr => h r (by simp [hr])
    exact ⟨x :: l, rfl, fun y hy => by
      rcases List.mem_cons.1 hy with rfl | hy
      · exact hx
      · exact hl y hy⟩

/-- A value that may be there. -/
def OkVal (v : Val') : Prop := (0 ≤ v.1 ∧ v.1 ≤ 18446744073709551615) ∧ v.2.length ≤ maxBytes
def OkMet (m : Met) : Prop := (-9223372036854775808 ≤ m.1 ∧ m.1 ≤ 9223372036854775807) ∧ (-9223372036854775808 ≤ m.2.1 ∧ m.2.1 ≤ 9223372036854775807) ∧ m.2.2.length * 24 ≤ reachBytes ∧ ∀ v ∈ m.2.2, OkVal v

theorem sh_val {n : Nat} {vs : List V} (h : Sh Go.Proofs.Tryd.prog (n + 2) 32 vs) : ∃ v : Val', vs = [.int .u64 v.1, .str v.2] ∧ OkVal v := by
  obtain ⟨p, q, h1, ⟨p', q', h2, rfl, rfl⟩, rfl⟩ := sh_struct Go.Proofs.Tryd.underlying32 h
  obtain ⟨x, rfl, hx⟩ := sh_int Go.Proofs.Tryd.underlying30 h1
  obtain ⟨l, rfl, hl⟩ := sh_str Go.Proofs.Tryd.underlying9 h2
  exact ⟨(x, l), rfl, wf_u64 hx, hl⟩

theorem sh_met {n : Nat} {vs : List V} (h : Sh Go.Proofs.Tryd.prog (n + 4) 26 vs) : ∃ m : Met, vs = mcells m ∧ OkMet m := by
  obtain ⟨p, q, h1, ⟨p', q', h2, ⟨p'', q'', h3, rfl, rfl⟩, rfl⟩, rfl⟩ := sh_struct Go.Proofs.Tryd.underlying26 h
  obtain ⟨a, rfl, ha⟩ := sh_int Go.Proofs.Tryd.underlying3 h1
  obtain ⟨b, rfl, hb⟩ := sh_int Go.Proofs.Tryd.underlying3 h2
  obtain ⟨rows, rfl, hr, he⟩ := sh_slice Go.Proofs.Tryd.underlying24 h3
  obtain ⟨l, rfl, hl⟩ := rows_of (f := fun v : Val' => [.int .u64 v.1, .str v.2]) rows fun r hr => sh_val (he r hr)
  have hc : Program.cellsOf Go.Proofs.Tryd.prog 32 = 2 := by kernel_rfl
  have hby : Program.bytesOf Go.Proofs.Tryd.prog 32 = 24 := by kernel_rfl
  rw [hc]
  rw [hby, List.length_map] at hr
  exact ⟨(a, b, l), rfl, wf_i64 ha, wf_i64 hb, hr, hl⟩

theorem shv_met {n : Nat} {x : V} (h : ShV Go.Proofs.Tryd.prog (n + 4) 26 x) : ∃ m : Met, x = .agg (mcells m) ∧ OkMet m := by
  have ha : aggT Go.Proofs.Tryd.prog 26 = true := by kernel_rfl
  unfold ShV at h
  rw [ha] at h
  obtain ⟨vs, rfl, h⟩ := h
  obtain ⟨m, rfl, hm⟩ := sh_met h
  exact ⟨m, rfl, hm⟩
theorem shv_val {n : Nat} {x : V} (h : ShV Go.Proofs.Tryd.prog (n + 2) 32 x) : ∃ v : Val', x = .agg [.int .u64 v.1, .str v.2] ∧ OkVal v := by
  have ha : aggT Go.Proofs.Tryd.prog 32 = true := by kernel_rfl
  unfold ShV at h
  rw [ha] at h
  obtain ⟨vs, rfl, h⟩ := h
  obtain ⟨m, rfl, hm⟩ := sh_val h
  exact ⟨m, rfl, hm⟩
theorem shv_int {n : Nat} {x : V} (h : ShV Go.Proofs.Tryd.prog (n + 1) 3 x) : ∃ i : Int, x = .int .i64 i ∧ (-9223372036854775808 ≤ i ∧ i ≤ 9223372036854775807) := by
  have ha : aggT Go.Proofs.Tryd.prog 3 = false := by kernel_rfl
  unfold ShV at h
  rw [ha] at h
  obtain ⟨i, h1, h2⟩ := sh_int Go.Proofs.Tryd.underlying3 h
  rw [List.cons.injEq] at h1
  exact ⟨i, h1.1, wf_i64 h2⟩
theorem shv_str {n : Nat} {x : V} (h : ShV Go.Proofs.Tryd.prog (n + 1) 9 x) : ∃ l : List UInt8, x = .str l ∧ l.length ≤ maxBytes := by
  have ha : aggT Go.Proofs.Tryd.prog 9 = false := by kernel_rfl
  unfold ShV at h
  rw [ha] at h
  obtain ⟨i, h1, h2⟩ := sh_str Go.Proofs.Tryd.underlying9 h
  rw [List.cons.injEq] at h1
  exact ⟨i, h1.1, h2⟩
theorem shv_ma {n : Nat} {x : V} (h : ShV Go.Proofs.Tryd.prog (n + 5) 53 x) : ∃ (m : Met) (i : Int) (v : Val') (k : Int), x = .agg (mcells m ++ [.int .i64 i] ++ [.int .u64 v.1, .str v.2] ++ [.int .i64 k]) ∧ OkMet m := by
  have ha : aggT Go.Proofs.Tryd.prog 53 = true := by kernel_rfl
  unfold ShV at h
  rw [ha] at h
  obtain ⟨vs, rfl, h⟩ := h
  obtain ⟨p, q, h1, ⟨p', q', h2, ⟨p'', q'', h3, ⟨p3, q3, h4, rfl, rfl⟩, rfl⟩, rfl⟩, rfl⟩ := sh_struct Go.Proofs.Tryd.underlying53 h
  obtain ⟨m, rfl, hm⟩ := sh_met h1
  obtain ⟨i, rfl, _⟩ := sh_int Go.Proofs.Tryd.underlying3 h2
  obtain ⟨v, rfl, _⟩ := sh_val h3
  obtain ⟨k, rfl, _⟩ := sh_int Go.Proofs.Tryd.underlying3 h4
  exact ⟨m, i, v, k, by simp, hm⟩
end Go.Abs.Sig

/-! WGlob -/
namespace Go.Abs.Sig
open Go.RowKit Go.Abs Go.ChangeShapes Go.WideShapes Go.ChangeAt
set_option linter.unusedSimpArgs false
set_option linter.unusedVariables false
set_option maxRecDepth 8000

def laidW : List (String × DataW Unit) := [("interchange/num.widths", Go.Proofs.YteklnflddoekfaaDoor.Rows.laid_interchange_num_widths)]
def wInts : List Int := [1, 2, 4, 8]
theorem laidW_eq : (Go.Proofs.YteklnflddoekfaaDoor.Rows.laid_interchange_num_widths : DataW Unit) = .agg (wInts.map fun n => .lit (.int .i64 n)) := rfl

theorem gW : Program.globalNamed Go.Proofs.Tryd.prog "interchange/num.widths" = some 1 := by kernel_rfl
theorem tW : (Go.Proofs.Tryd.prog.globals[1]?).map (·.type) = some 136 := by kernel_rfl
def GW (g : Nat) : Option (List V) := if g = 1 then some wV else none
theorem GW1 : GW 1 = some wV := rfl

theorem w_cells {enc : TypeId × Value → Unit} {W : World} {sp : Nat → Bool} {held : Bool} {b f0 : Nat} {l : List Value} {p0 : List MemPlace} (hd : DataW.trod enc Go.Proofs.Tryd.prog W b sp held f0 136 l = some (.agg (wInts.map fun n => .lit (.int .i64 n)), p0)) (i : Nat) (n : Int) (hr : wInts[i]? = some n) :
    l[i]? = some (.int .i64 n) := by
  have c3 : Program.cellsOf Go.Proofs.Tryd.prog 3 = 1 := by kernel_rfl
  obtain ⟨xs, m, _, hx, hlen, hn, hel⟩ := DataW.trod_array Go.Proofs.Tryd.underlying136 hd
  simp only [Prod.mk.injEq, DataW.agg.injEq] at hx
  have hi : i < 4 := (List.getElem?_eq_some_iff.1 hr).1
  have hxi : (xs.map (·.1))[i]? = some (.lit (.int .i64 n)) := by rw [← hx.1, List.getElem?_map, hr]; rfl
  rw [List.getElem?_map] at hxi
  obtain ⟨y, hy, hye⟩ := Option.map_eq_some_iff.1 hxi
  have he := hel i hi
  rw [c3, hy] at he
  obtain ⟨k1, g1, g1', _⟩ := DataW.trod_int Go.Proofs.Tryd.underlying3 he
  rw [g1'] at hye
  simp only [DataW.lit.injEq, Lit.int.injEq, true_and] at hye
  subst hye
  have h0 : ((l.drop (i * 1)).take 1)[0]? = some (.int .i64 k1) := by rw [g1]; rfl
  rw [List.getElem?_take_of_lt (by omega), List.getElem?_drop] at h0
  simpa using h0

theorem glob_GW {W : World} (h : laidMetH Go.Proofs.Tryd.prog laidW W) : ∀ g cs, GW g = some cs → Rep W (Env.all W) (.rp cs) (.pointer (some ⟨g, 0, none⟩)) := by
  intro g cs hg
  rw [MakeChecks.laidMetH_plain _ _ _ (by kernel_rfl)] at h
  obtain ⟨ps, ⟨g0, t0, cs0, f0, p0, q0, hg0, ht0, hv0, hd0, _, _⟩, _, _⟩ := h
  obtain rfl := Option.some.inj (gW.symm.trans hg0)
  obtain rfl := Option.some.inj (tW.symm.trans ht0)
  have hcell : ∀ j, W.cell? ⟨1, j, none⟩ = cs0[j]? := fun j => World.var?_cell hg0 hv0 j
  unfold GW at hg
  split at hg
  · rename_i h1
    subst h1
    obtain rfl : wV = cs := Option.some.inj hg
    refine rep_glob (fun j => (W.cell? ⟨1, j, none⟩).getD (.int .i64 0)) fun j v hv => ?_
    have hj : j < 4 := (List.getElem?_eq_some_iff.1 hv).1
    obtain ⟨n, hr⟩ : ∃ n, wInts[j]? = some n := ⟨_, List.getElem?_eq_getElem (by show j < 4; exact hj)⟩
    have c0 := w_cells hd0 j n hr
    have hv' : v = .int .i64 n := by
      have : wV = wInts.map fun n => V.int .i64 n := rfl
      rw [this, List.getElem?_map, hr] at hv
      exact (Option.some.inj hv).symm
    have hc : cs0[j]? = some (.int .i64 n) := by simpa using c0
    rw [hcell j, hc, hv']
    exact ⟨rfl, rfl⟩
  · cases hg

/-- The door's own heap meets the condition. -/
theorem doorW_met (os : Os) (args : Array Value) : laidMetH Go.Proofs.Tryd.prog laidW ((World.doorLaid Go.Proofs.Tryd.prog 400 os).forCall (fun _ _ => 0) ⟨#[], args, []⟩).memory :=
  laidMetH_of_parts3 (fuel := 8) (laidMet_of_run' 8 (by kernel_rfl) (by kernel_rfl)) (by kernel_rfl) (by kernel_rfl)
end Go.Abs.Sig

/-! W1 -/
namespace Go.Abs.Sig
open Go.RowKit Go.Abs
set_option linter.unusedSimpArgs false
set_option linter.unusedVariables false
set_option maxRecDepth 8000

theorem okMet_len {m : Met} (h : OkMet m) : m.2.2.length * 24 ≤ maxBytes := Nat.le_trans h.2.2.1 reach_le

theorem methodArgs_walk (xs : List V) (h : ShAll Go.Proofs.Tryd.prog 8 (#[26, 3, 32] : Array TypeId).toList xs) : Call2 Go.Proofs.Tryd.prog GW 8 xs [] fun r H' => H' = [] ∧ r = .bool true := by
  obtain ⟨x1, r1, h1, ⟨x2, r2, h2, ⟨x3, r3, h3, rfl, rfl⟩, rfl⟩, rfl⟩ := h
  obtain ⟨m, rfl, hm⟩ := shv_met h1
  obtain ⟨i, rfl, _⟩ := shv_int h2
  obtain ⟨v, rfl, _⟩ := shv_val h3
  exact methodArgs_ct GW GW1 m i v (okMet_len hm) []
theorem methodArg_walk (xs : List V) (h : ShAll Go.Proofs.Tryd.prog 8 (#[53] : Array TypeId).toList xs) : Call2 Go.Proofs.Tryd.prog GW 10 xs [] fun r H' => H' = [] ∧ r = .bool true := by
  obtain ⟨x1, r1, h1, rfl, rfl⟩ := h
  obtain ⟨m, i, v, k, rfl, hm⟩ := shv_ma h1
  exact methodArg_ct GW GW1 m i v k (okMet_len hm) []
end Go.Abs.Sig

/-! N10 -/
namespace Go.Abs.Sig
open Go.RowKit Go.Abs
set_option linter.unusedSimpArgs false
set_option linter.unusedVariables false
set_option maxRecDepth 8000
attribute [local irreducible] StCall StYield WPc Weak IterOf Lp2

theorem mrightT_ct (G : Nat → Option (List V)) (hG : G 1 = some wV) (m : Met) (hm : ∀ v ∈ m.2.2, v.2.length ≤ maxStr) (H : Heap) : Call2 Go.Proofs.Tryd.prog G 23 [.agg (mcells m)] H fun r H' => H' = H ∧ r = .int .i64 (mright tbv m) :=
  mright_ct G tbv m (fun _ => ⟨tbOk G hG, hm⟩) H

/-! ### the plain law -/
theorem vright_zero (tb : Val' → Int) : ∀ (s : List UInt8) (l : List Val'), s.length = l.length → (vright tb s l = 0 ↔ ∀ (j : Nat) (c : UInt8) (v : Val'), s[j]? = some c → l[j]? = some v → rl tb c v = 0)
  | [], [], _ => ⟨fun _ j c v h => by simp at h, fun _ => rfl⟩
  | [], _ :: _, h => by simp at h
  | _ :: _, [], h => by simp at h
  | c :: s, v :: l, h => by
    have ih := vright_zero tb s l (by simpa using h)
    unfold vright
    by_cases h0 : rl tb c v = 0
    · rw [if_neg (by simpa using h0), ih]
      constructor
      · intro hh j c' v' h1 h2
        cases j with
        | zero => simp at h1 h2; subst h1; subst h2; exact h0
        | succ j => exact hh j c' v' (by simpa using h1) (by simpa using h2)
      · intro hh j c' v' h1 h2
        exact hh (j + 1) c' v' (by simpa using h1) (by simpa using h2)
    · rw [if_pos h0]
      constructor
      · intro hh; exact absurd hh h0
      · intro hh; exact absurd (hh 0 c v rfl rfl) h0

theorem mright_zero (tb : Val' → Int) (m : Met) : mright tb m = 0 ↔ isAt m.1 m.2.1 = true ∧ (rowAt m.1 m.2.1).2.2.1.length = m.2.2.length ∧ vright tb (rowAt m.1 m.2.1).2.2.1 m.2.2 = 0 := by
  unfold mright
  cases hi : isAt m.1 m.2.1
  · simp
  · cases hl : decide (((rowAt m.1 m.2.1).2.2.1.length : Int) ≠ (m.2.2.length : Int))
    · have hl' : (rowAt m.1 m.2.1).2.2.1.length = m.2.2.length := by
        have := of_decide_eq_false hl
        omega
      simp [hl']
    · have hl' : ¬ (rowAt m.1 m.2.1).2.2.1.length = m.2.2.length := by
        have := of_decide_eq_true hl
        omega
      simp [hl']

theorem withOf_in {m : Met} {i : Int} {v : Val'} (ho : out m i = false) : withOf m i v = (m.1, m.2.1, m.2.2.set i.toNat v) := by unfold withOf; rw [ho]; rfl

theorem mright_with {tb : Val' → Int} {m k : Met} {i : Int} (h1 : mright tb m = 0) (h2 : mright tb k = 0) (hc : m.1 = k.1) (hi : m.2.1 = k.2.1) (ho : out m i = false) : mright tb (withOf m i (argOf k i)) = 0 := by
  rw [withOf_in ho]
  rw [mright_zero] at h1 h2 ⊢
  obtain ⟨a1, a2, a3⟩ := h1
  obtain ⟨b1, b2, b3⟩ := h2
  refine ⟨a1, by simpa using a2, ?_⟩
  rw [vright_zero _ _ _ (by simpa using a2)]
  rw [vright_zero _ _ _ a2] at a3
  rw [vright_zero _ _ _ b2] at b3
  intro j c v hj hv
  simp only at hj hv
  unfold out at ho
  simp only [Bool.or_eq_false_iff, decide_eq_false_iff_not] at ho
  by_cases hji : j = i.toNat
  · subst hji
    rw [List.getElem?_set_self (by omega)] at hv
    obtain rfl := Option.some.inj hv
    have hk : out k i = false := by
      unfold out
      rw [← hc, ← hi] at b2
      simp only [Bool.or_eq_false_iff, decide_eq_false_iff_not]
      omega
    have hlt : i.toNat < k.2.2.length := by
      unfold out at hk
      simp only [Bool.or_eq_false_iff, decide_eq_false_iff_not] at hk
      omega
    refine b3 i.toNat c _ (by rw [← hc, ← hi]; exact hj) ?_
    unfold argOf
    rw [hk]
    simp [hlt]
  · rw [List.getElem?_set_ne (Ne.symm hji)] at hv
    exact a3 j c v hj hv

/-! ### the walk -/
def moS (m k n : Met) (i : Int) (j : Nat) : S2 := headS 105 ([.bad, .bad, .int .i64 i, .ptr 0 0, .ptr 1 0, .bad, .bad, .im (.bool true), .ptr 2 0, .im (.int .i64 (j : Int))] ++ List.replicate 95 .bad) [some (.cells 26 (mcells m)), some (.cells 26 (mcells k)), some (.cells 26 (mcells n))] [] none

theorem bws_three (a b c : Met) : BWs 3 [some (.cells 26 (mcells a)), some (.cells 26 (mcells b)), some (.cells 26 (mcells c))] [some (.cells 26 (mcells a)), some (.cells 26 (mcells b)), some (.cells 26 (mcells c))] :=
  .cons (.free (mcells_free' a)) (.cons (.free (mcells_free' b)) (.cons (.free (mcells_free' c)) (.nil _)))

theorem methodOne_ct (G : Nat → Option (List V)) (hG : G 1 = some wV) (m k : Met) (i : Int) (hm : m.2.2.length * 24 ≤ maxBytes) (hms : ∀ v ∈ m.2.2, v.2.length ≤ maxBytes) (hk : k.2.2.length * 24 ≤ maxBytes) (hks : ∀ v ∈ k.2.2, v.2.length ≤ maxBytes) (H : Heap) :
    Call2 Go.Proofs.Tryd.prog G 9 [.agg (mcells m), .agg (mcells k), .int .i64 i] H fun r H' => H' = H ∧ r = .bool true := by
  refine Call2.free (fun x hx => by
    simp only [List.mem_cons, List.not_mem_nil, or_false] at hx
    rcases hx with rfl | rfl | rfl
    · exact mcells_free m
    · exact mcells_free k
    · exact .im _) ?_ H
  refine stCall2 Go.Proofs.Tryd.func9 rfl (by decide) ?_
  conv => whnf
  refine Call2.mono (shownM_ct G hG _) fun r0 H0 h => ?_
  obtain ⟨h1, h2⟩ := h
  rw [h1, h2]
  clear h1 h2 r0 H0
  conv => whnf
  refine Call2.mono (mrightT_ct G hG m (fun v hv => le_maxStr (hms v hv)) _) fun r0 H0 h => ?_
  obtain ⟨h1, h2⟩ := h
  rw [h1, h2]
  clear h1 h2 r0 H0
  conv => whnf
  by_cases e1 : mright tbv m ≠ 0
  · rw [decide_eq_true e1]
    conv => whnf
    exact ⟨.im _, rfl⟩
  rw [decide_eq_false e1]
  conv => whnf
  refine Call2.mono (mrightT_ct G hG k (fun v hv => le_maxStr (hks v hv)) _) fun r0 H0 h => ?_
  obtain ⟨h1, h2⟩ := h
  rw [h1, h2]
  clear h1 h2 r0 H0
  conv => whnf
  by_cases e2 : mright tbv k ≠ 0
  · rw [decide_eq_true e2]
    conv => whnf
    exact ⟨.im _, rfl⟩
  rw [decide_eq_false e2]
  conv => whnf
  by_cases e3 : m.1 ≠ k.1
  · rw [decide_eq_true e3]
    conv => whnf
    exact ⟨.im _, rfl⟩
  rw [decide_eq_false e3]
  conv => whnf
  by_cases e4 : m.2.1 ≠ k.2.1
  · rw [decide_eq_true e4]
    conv => whnf
    exact ⟨.im _, rfl⟩
  rw [decide_eq_false e4]
  conv => whnf
  by_cases e5 : i < 0
  · rw [decide_eq_true e5]
    conv => whnf
    exact ⟨.im _, rfl⟩
  rw [decide_eq_false e5]
  conv => whnf
  by_cases e6 : ((vals m.2.2).length : Int) ≤ i
  · rw [decide_eq_true e6]
    conv => whnf
    exact ⟨.im _, rfl⟩
  rw [decide_eq_false e6]
  conv => whnf
  have hvl : (vals m.2.2).length = m.2.2.length := by simp [vals]
  have hc : m.1 = k.1 := by simpa using e3
  have hi : m.2.1 = k.2.1 := by simpa using e4
  have ho : out m i = false := by
    unfold out
    simp only [Bool.or_eq_false_iff, decide_eq_false_iff_not]
    omega
  have hmr := mright_with (i := i) (by simpa using e1) (by simpa using e2) hc hi ho
  have hwl : (withOf m i (argOf k i)).2.2.length = m.2.2.length := by rw [withOf_in ho]; simp
  have hwget : ∀ j : Nat, j < m.2.2.length → (withOf m i (argOf k i)).2.2[j]? = if (j : Int) = i then k.2.2[j]? else m.2.2[j]? := by
    intro j hj
    rw [withOf_in ho]
    simp only
    have hlen : k.2.2.length = m.2.2.length := by
      have a := ((mright_zero tbv m).1 (by simpa using e1)).2.1
      have b := ((mright_zero tbv k).1 (by simpa using e2)).2.1
      rw [← hc, ← hi] at b
      omega
    by_cases hji : (j : Int) = i
    · rw [if_pos hji]
      have : i.toNat = j := by omega
      rw [this, List.getElem?_set_self hj]
      have hk' : out k i = false := by
        unfold out
        simp only [Bool.or_eq_false_iff, decide_eq_false_iff_not]
        omega
      unfold argOf
      rw [hk', this]
      simp [hlen, hj]
    · rw [if_neg hji, List.getElem?_set_ne (by omega)]
  have hws : ∀ v ∈ (withOf m i (argOf k i)).2.2, v.2.length ≤ maxBytes := by
    intro v hv
    obtain ⟨j, hj⟩ := List.mem_iff_getElem?.1 hv
    have hjl : j < m.2.2.length := by rw [← hwl]; exact (List.getElem?_eq_some_iff.1 hj).1
    rw [hwget j hjl] at hj
    split at hj
    · exact hks v (List.mem_of_getElem? hj)
    · exact hms v (List.mem_of_getElem? hj)
  intro hw
  refine wpc_drawA2 6 _ (by rfl) (by decide) (by decide) rfl rfl hw ?_
  conv => whnf
  refine ⟨_, fun _ _ => arg_ct G k i _, ?_⟩
  conv => whnf
  refine ⟨_, fun _ _ => with_ct G m i (argOf k i) hm _, ?_⟩
  generalize withOf m i (argOf k i) = n at hmr hwl hwget hws
  have hvn : (vals n.2.2).length = m.2.2.length := by simp [vals, hwl]
  conv => whnf
  have d1 : decide (((vals n.2.2).length : Int) ≠ ((vals m.2.2).length : Int)) = false := by rw [hvn, hvl]; simp
  rw [d1]
  conv => whnf
  refine Call2.mono (mrightT_ct G hG n (fun v hv => le_maxStr (hws v hv)) _) fun r0 H0 h => ?_
  obtain ⟨h1, h2⟩ := h
  rw [h1, h2]
  clear h1 h2 r0 H0
  conv => whnf
  rw [hmr]
  conv => whnf
  intro hw2
  have hlk : k.2.2.length = m.2.2.length := by
    have a := ((mright_zero tbv m).1 (by simpa using e1)).2.1
    have b := ((mright_zero tbv k).1 (by simpa using e2)).2.1
    rw [← hc, ← hi] at b
    omega
  refine wpc_loop2 (fun n1 s1 => ∃ j : Nat, j ≤ m.2.2.length ∧ n1 = m.2.2.length - j ∧ s1 = moS m k n i j) m.2.2.length (moS m k n i 0) ?_ ⟨0, by omega, rfl, rfl⟩ ?_ ?_
  · exact weak2 hw2 rfl ⟨.im _, .ptr 0 0 (show 0 < 3 by decide), .ptr 1 0 (show 1 < 3 by decide), .im _, .ptr 2 0 (show 2 < 3 by decide), .im _, trivial⟩ (bws_three _ _ _) (fun id hid => by cases hid) rfl (fun id hid => by cases hid)
  · rintro n1 s1 ⟨j, _, _, rfl⟩
    exact ⟨⟨Nat.le_refl 105, fun x hx => by cases hx⟩, rfl, Nat.le_refl _, rfl⟩
  · rintro n1 s1 ⟨j, hj, rfl, rfl⟩
    by_cases hjl : j < m.2.2.length
    · have hlt : decide ((j : Int) < ((vals n.2.2).length : Int)) = true := decide_eq_true (by omega)
      have hwj : IntKind.i64.wrap ((j : Int) + 1) = ((j + 1 : Nat) : Int) := by rw [wrap_i64 (by omega) (by simp only [maxBytes] at hm; omega)]; rfl
      have hd0 : (true && true && decide ((0 : Int) ≤ (j : Int))) = true := by simp
      obtain ⟨y, hy⟩ : ∃ y, m.2.2[j]? = some y := ⟨_, List.getElem?_eq_getElem hjl⟩
      obtain ⟨z, hz⟩ : ∃ z, k.2.2[j]? = some z := ⟨_, List.getElem?_eq_getElem (by omega)⟩
      have hx := hwget j hjl
      conv => whnf
      refine br_t hlt ?_
      conv => whnf
      intro hw3
      refine wpc_draw2 34 (by rfl) (by decide) (by decide) hw3 ?_
      by_cases hji : (j : Int) = i
      · rw [if_pos hji, hz] at hx
        have dn : decide ((j : Int) ≠ i) = false := by simp [hji]
        have de : decide ((j : Int) = i) = true := by simp [hji]
        conv => whnf
        rw [dn]
        conv => whnf
        rw [de]
        conv => whnf
        refine grd_intro hd0 (optK_intro (vals_get hx) ?_)
        conv => whnf
        refine grd_intro hd0 (optK_intro (vals_get hz) ?_)
        conv => whnf
        refine EqT.neq eqT32 flat32 (eq32 _ _) ?_
        rw [decide_eq_true rfl]
        conv => whnf
        intro hw4
        refine ⟨m.2.2.length - (j + 1), moS m k n i (j + 1), by omega, ?_, j + 1, by omega, rfl, rfl⟩
        exact weak2 hw4 rfl ⟨.im _, .ptr 0 0 (show 0 < 3 by decide), .ptr 1 0 (show 1 < 3 by decide), .im _, .ptr 2 0 (show 2 < 3 by decide), .int hwj, trivial⟩ (bws_three _ _ _) (fun id hid => by cases hid) rfl (fun id hid => by cases hid)
      · rw [if_neg hji, hy] at hx
        have dn : decide ((j : Int) ≠ i) = true := by simp [hji]
        have de : decide ((j : Int) = i) = false := by simp [hji]
        conv => whnf
        rw [dn]
        conv => whnf
        refine grd_intro hd0 (optK_intro (vals_get hx) ?_)
        conv => whnf
        refine grd_intro hd0 (optK_intro (vals_get hy) ?_)
        conv => whnf
        refine EqT.neq eqT32 flat32 (eq32 _ _) ?_
        rw [decide_eq_true rfl]
        conv => whnf
        rw [de]
        conv => whnf
        intro hw4
        refine ⟨m.2.2.length - (j + 1), moS m k n i (j + 1), by omega, ?_, j + 1, by omega, rfl, rfl⟩
        exact weak2 hw4 rfl ⟨.im _, .ptr 0 0 (show 0 < 3 by decide), .ptr 1 0 (show 1 < 3 by decide), .im _, .ptr 2 0 (show 2 < 3 by decide), .int hwj, trivial⟩ (bws_three _ _ _) (fun id hid => by cases hid) rfl (fun id hid => by cases hid)
    · have hge : decide ((j : Int) < ((vals n.2.2).length : Int)) = false := decide_eq_false (by omega)
      conv => whnf
      refine br_f hge ?_
      conv => whnf
      exact ⟨.im _, rfl⟩
end Go.Abs.Sig

/-! W2 -/
namespace Go.Abs.Sig
open Go.RowKit Go.Abs
set_option linter.unusedSimpArgs false
set_option linter.unusedVariables false
set_option maxRecDepth 8000

theorem okMet_str {m : Met} (h : OkMet m) : ∀ v ∈ m.2.2, v.2.length ≤ maxBytes := fun v hv => (h.2.2.2 v hv).2

theorem methodOne_walk (xs : List V) (h : ShAll Go.Proofs.Tryd.prog 8 (#[26, 26, 3] : Array TypeId).toList xs) : Call2 Go.Proofs.Tryd.prog GW 9 xs [] fun r H' => H' = [] ∧ r = .bool true := by
  obtain ⟨x1, r1, h1, ⟨x2, r2, h2, ⟨x3, r3, h3, rfl, rfl⟩, rfl⟩, rfl⟩ := h
  obtain ⟨m, rfl, hm⟩ := shv_met h1
  obtain ⟨k, rfl, hk⟩ := shv_met h2
  obtain ⟨i, rfl, _⟩ := shv_int h3
  exact methodOne_ct GW GW1 m k i (okMet_len hm) (okMet_str hm) (okMet_len hk) (okMet_str hk) []
end Go.Abs.Sig

/-! N11 -/
namespace Go.Abs.Sig
open Go.RowKit Go.Abs
set_option linter.unusedSimpArgs false
set_option linter.unusedVariables false
set_option maxRecDepth 8000
attribute [local irreducible] StCall StYield WPc Weak IterOf Lp2

/-- A bit of a byte, of a text. -/
def bitB (b : UInt8) (t : Nat) : Bool := decide (IntKind.u8.wrap ((BitVec.ofInt 8 ((b.toNat : Int).fdiv (2 ^ min t 8)) &&& BitVec.ofInt 8 1).toNat : Int) = 1)
def bitAt (s : List UInt8) (i : Nat) : Bool := bitB ((s[i / 8]?).getD 0) (i % 8)
def manyB (n : Nat) : Nat := (n + 7) / 8
def tbits (s : List UInt8) (n : Nat) : List Bool × List UInt8 × Int :=
  if s.length < manyB n then ([], [], 2) else if ((List.range (8 * manyB n)).drop n).any (bitAt s) then ([], [], 3) else ((List.range n).map (bitAt s), s.drop (manyB n), 0)
def tbV (x : List Bool × List UInt8 × Int) : V := .tup [.dat 1 (bools x.1) .no, .str x.2.1, .int .i64 x.2.2]
theorem tbV_free (x : List Bool × List UInt8 × Int) : (tbV x).Free := .tup _ fun v hv => by
  simp only [List.mem_cons, List.not_mem_nil, or_false] at hv
  rcases hv with rfl | rfl | rfl
  · exact .dat _ _ _ (by simp)
  · exact .str _
  · exact .im _
theorem tbV_vw {n es : Nat} {rows : List (List V)} {fl : Fl} {l : List Bool} {s : List UInt8} {e : Int} (h : (es = 1 ∧ rows = bools l) ∨ (rows = [] ∧ l = [] ∧ fl = .tight)) : VW n (.tup [.dat es rows fl, .str s, .int .i64 e]) (tbV (l, s, e)) := by
  refine .tup _ _ rfl fun j v v' h1 h2 => ?_
  match j with
  | 0 =>
    cases h1; cases h2
    rcases h with ⟨rfl, rfl⟩ | ⟨rfl, rfl, rfl⟩
    · exact .no _ _ _
    · exact .nil _ _ _ _ (.inl rfl)
  | 1 => cases h1; cases h2; exact .str _
  | 2 => cases h1; cases h2; exact .im _
  | j + 3 => simp at h1

theorem drop_range_mem {n k j : Nat} : j ∈ (List.range k).drop n ↔ n ≤ j ∧ j < k := by
  rw [List.mem_iff_getElem?]
  constructor
  · rintro ⟨i, hi⟩
    rw [List.getElem?_drop] at hi
    have h1 := (List.getElem?_eq_some_iff.1 hi).1
    have h2 := (List.getElem?_eq_some_iff.1 hi).2
    simp at h1 h2
    omega
  · rintro ⟨h1, h2⟩
    refine ⟨j - n, ?_⟩
    rw [List.getElem?_drop]
    have : n + (j - n) = j := by omega
    rw [this]
    simp [h2]
theorem any_bit {s : List UInt8} {n k j : Nat} (h1 : n ≤ j) (h2 : j < k) (h3 : bitAt s j = true) : ((List.range k).drop n).any (bitAt s) = true :=
  List.any_eq_true.2 ⟨j, drop_range_mem.2 ⟨h1, h2⟩, h3⟩
theorem no_bit {s : List UInt8} {n k : Nat} (h : ∀ i, n ≤ i → i < k → bitAt s i = false) : ((List.range k).drop n).any (bitAt s) = false := by
  rw [List.any_eq_false]
  intro j hj
  obtain ⟨h1, h2⟩ := drop_range_mem.1 hj
  rw [h j h1 h2]; simp

def tbS (s : List UInt8) (n m j : Nat) : S2 := headS 58 ([.str s, .int .i64 (n : Int), .bad, .bad, .bad, .bad, .bad, .int .i64 (m : Int), .dat 1 (bools ((List.range (min j n)).map (bitAt s))) (.cls 52)] ++ List.replicate 18 .bad ++ [.int .i64 ((8 * m : Nat) : Int), .int .i64 (j : Int)] ++ List.replicate 29 .bad) [] [] none

theorem takeBits_ct (G : Nat → Option (List V)) (s : List UInt8) (n : Nat) (hn : n ≤ 64) (H : Heap) : Call2 Go.Proofs.Tryd.prog G 71 [.str s, .int .i64 (n : Int)] H fun r H' => H' = H ∧ r = tbV (tbits s n) := by
  refine Call2.free (fun x hx => by
    simp only [List.mem_cons, List.not_mem_nil, or_false] at hx
    rcases hx with rfl | rfl
    · exact .str _
    · exact .im _) ?_ H
  refine Call2.weakR ?_
  refine stCall2 Go.Proofs.Tryd.func71 rfl (by decide) ?_
  have hq : IntKind.i64.wrap ((IntKind.i64.wrap ((n : Int) + 7)).tdiv 8) = ((manyB n : Nat) : Int) := by
    rw [wrap_i64 (n := (n : Int) + 7) (by omega) (by omega)]
    have : ((n : Int) + 7).tdiv 8 = ((manyB n : Nat) : Int) := by
      rw [Int.tdiv_eq_ediv_of_nonneg (by omega)]; unfold manyB; omega
    rw [this, wrap_i64 (by unfold manyB; omega) (by unfold manyB; omega)]
  unfold tbits
  have hmn : manyB n ≤ 8 ∧ n ≤ 8 * manyB n := by unfold manyB; omega
  generalize manyB n = m at hq hmn
  conv => whnf
  refine ⟨by decide, ?_⟩
  rw [hq]
  conv => whnf
  rw [show decide ((n : Int) < 0) = false from decide_eq_false (by omega)]
  conv => whnf
  refine br_f (decide_eq_false (by omega)) ?_
  conv => whnf
  by_cases hs : s.length < m
  · refine br_t (decide_eq_true (by omega)) ?_
    conv => whnf
    rw [if_pos hs]
    exact ⟨_, tbV_vw (.inr ⟨rfl, rfl, rfl⟩), tbV_free _, rfl⟩
  · refine br_f (decide_eq_false (by omega)) ?_
    rw [if_neg hs]
    have h8 : IntKind.i64.wrap (8 * (m : Int)) = ((8 * m : Nat) : Int) := by rw [wrap_i64 (by omega) (by omega)]; omega
    conv => whnf
    rw [h8]
    intro hw
    refine wpc_loop2 (fun n1 s1 => ∃ j : Nat, j ≤ 8 * m ∧ n1 = 8 * m - j ∧ s1 = tbS s n m j ∧ ∀ i, n ≤ i → i < j → bitAt s i = false) (8 * m) (tbS s n m 0) ?_ ⟨0, by omega, rfl, rfl, fun i _ h => by omega⟩ ?_ ?_
    · exact weak2 hw rfl ⟨.str _, .im _, .im _, .nil _ _ _ _ (.inl rfl), .im _, .im _, trivial⟩ (.nil _) (fun id hid => by cases hid) rfl (fun id hid => by cases hid)
    · rintro n1 s1 ⟨j, _, _, rfl, _⟩
      exact ⟨⟨Nat.le_refl 58, fun x hx => by cases hx⟩, rfl, Nat.le_refl _, rfl⟩
    · rintro n1 s1 ⟨j, hj, rfl, rfl, hinv⟩
      by_cases hjl : j < 8 * m
      · have hlt : decide ((j : Int) < ((8 * m : Nat) : Int)) = true := decide_eq_true (by omega)
        have hwj : IntKind.i64.wrap ((j : Int) + 1) = ((j + 1 : Nat) : Int) := by rw [wrap_i64 (by omega) (by omega)]; rfl
        have hdv : IntKind.i64.wrap ((j : Int).tdiv 8) = ((j / 8 : Nat) : Int) := by
          rw [Int.tdiv_eq_ediv_of_nonneg (by omega), wrap_i64 (by omega) (by omega)]; omega
        have hmd : (j : Int).tmod 8 = ((j % 8 : Nat) : Int) := by
          rw [Int.tmod_eq_emod_of_nonneg (by omega)]; omega
        obtain ⟨b, hb⟩ := str_get (s := s) (j := j / 8) (by omega)
        have hgetb : s[Int.toNat ((j / 8 : Nat) : Int)]? = some b := hb
        have hd0 : decide (0 ≤ ((j / 8 : Nat) : Int)) = true := decide_eq_true (by omega)
        have hbit : bitAt s j = bitB b (j % 8) := by unfold bitAt; rw [hb]; rfl
        conv => whnf
        refine br_t hlt ?_
        conv => whnf
        refine ⟨by decide, ?_⟩
        rw [hdv]
        conv => whnf
        refine grd_intro hd0 (optK_intro hgetb ?_)
        conv => whnf
        refine ⟨by decide, ?_⟩
        rw [hmd]
        conv => whnf
        refine ⟨by omega, ?_⟩
        conv => whnf
        by_cases hnj : n ≤ j
        · refine br_t (decide_eq_true (by omega)) ?_
          rw [show decide ((n : Int) ≤ (j : Int)) = true from decide_eq_true (by omega)]
          conv => whnf
          cases hbb : bitB b (j % 8) with
          | true =>
            refine br_t (show bitB b (j % 8) = true from hbb) ?_
            conv => whnf
            rw [if_pos (any_bit hnj hjl (hbit.trans hbb))]
            exact ⟨_, tbV_vw (.inr ⟨rfl, rfl, rfl⟩), tbV_free _, rfl⟩
          | false =>
            refine br_f (show bitB b (j % 8) = false from hbb) ?_
            conv => whnf
            refine br_f (decide_eq_false (by omega)) ?_
            conv => whnf
            intro hw3
            refine ⟨8 * m - (j + 1), tbS s n m (j + 1), by omega, ?_, j + 1, by omega, rfl, rfl, fun i h1 h2 => ?_⟩
            · have hmin : min (j + 1) n = min j n := by omega
              unfold tbS
              rw [hmin]
              exact weak2 hw3 rfl ⟨.str _, .im _, .im _, .dat _ _ _, .im _, .int hwj, trivial⟩ (.nil _) (fun id hid => by cases hid) rfl (fun id hid => by cases hid)
            · by_cases hij : i = j
              · rw [hij, hbit, hbb]
              · exact hinv i h1 (by omega)
        · refine br_f (decide_eq_false (by omega)) ?_
          rw [show decide ((n : Int) ≤ (j : Int)) = false from decide_eq_false (by omega)]
          conv => whnf
          refine br_t (decide_eq_true (by omega)) ?_
          have hml : (List.map (bitAt s) (List.range (min j n))).length ≤ 64 := by rw [List.length_map, List.length_range]; omega
          conv => whnf
          refine ⟨.inr rfl, .inr rfl, ?_, ?_, ?_, ?_⟩
          · intro r hr
            obtain rfl := List.mem_singleton.1 hr
            rfl
          · show ((bools (List.map (bitAt s) (List.range (min j n)))).length + 1) * 1 ≤ 140737488355328
            rw [bools_len]; omega
          · show (bools (List.map (bitAt s) (List.range (min j n)))).length + 1 ≤ 140737488355328
            rw [bools_len]; omega
          conv => whnf
          intro hw3
          refine ⟨8 * m - (j + 1), tbS s n m (j + 1), by omega, ?_, j + 1, by omega, rfl, rfl, fun i h1 h2 => by omega⟩
          have hmin : min (j + 1) n = min j n + 1 := by omega
          have hmin2 : min j n = j := by omega
          have hbo : bools (List.map (bitAt s) (List.range (min j n + 1))) = bools (List.map (bitAt s) (List.range (min j n))) ++ [[.bool (bitB b (j % 8))]] := by
            rw [List.range_succ, List.map_append, hmin2, ← hbit]
            simp [bools]
          unfold tbS
          rw [hmin, hbo]
          exact weak2 hw3 rfl ⟨.str _, .im _, .im _, .dat _ _ _, .im _, .int hwj, trivial⟩ (.nil _) (fun id hid => by cases hid) rfl (fun id hid => by cases hid)
      · have hlt : decide ((j : Int) < ((8 * m : Nat) : Int)) = false := decide_eq_false (by omega)
        have hje : j = 8 * m := by omega
        have hmin : min j n = n := by omega
        have hsl : List.take ((s.length : Nat) : Int).toNat s = s := List.take_length
        conv => whnf
        refine br_f hlt ?_
        conv => whnf
        intro hw3
        refine wpc_draw2 7 (by rfl) (by decide) (by decide) hw3 ?_
        conv => whnf
        refine ⟨⟨by omega, by omega, by omega⟩, ?_⟩
        rw [hsl, hmin]
        conv => whnf
        rw [if_neg (by rw [no_bit (hje ▸ hinv)]; simp)]
        exact ⟨_, tbV_vw (.inl ⟨rfl, rfl⟩), tbV_free _, rfl⟩
end Go.Abs.Sig

/-! N12 -/
namespace Go.Abs.Sig
open Go.RowKit Go.Abs
set_option linter.unusedSimpArgs false
set_option linter.unusedVariables false
set_option maxRecDepth 8000
attribute [local irreducible] StCall StYield WPc Weak IterOf Lp2 wdsL wdL

theorem lookup_mem {α β : Type} [BEq α] [LawfulBEq α] {k : α} {n : β} : ∀ {l : List (α × β)}, l.lookup k = some n → (k, n) ∈ l
  | [], h => by simp at h
  | (a, m) :: l, h => by
    rw [List.lookup_cons] at h
    by_cases hk : k = a
    · subst hk
      simp at h
      subst h
      simp
    · have : (k == a) = false := by simpa using hk
      rw [this] at h
      exact List.mem_cons_of_mem _ (lookup_mem h)
theorem wdL_some {k : Nat} {n : Int} (h : wdL.lookup k = some n) : n = 1 ∨ n = 2 ∨ n = 4 ∨ n = 8 ∨ n = 0 := by
  have h := lookup_mem h
  unfold wdL at h
  simp only [List.mem_cons, Prod.mk.injEq, List.not_mem_nil, or_false] at h
  omega

/-- What method.value answers. -/
def valueF (c : UInt8) (s : List UInt8) : Val' × List UInt8 × Int :=
  match wdL.lookup c.toNat with
  | some n => ((((ntake s n.toNat).1 : Int), []), (ntake s n.toNat).2)
  | none => if c = 83 then ((0, (ttake 1 s).1), (ttake 1 s).2) else if c = 76 then ((0, (ttake 4 s).1), (ttake 4 s).2) else ((0, (tblF s).1), (tblF s).2)
def vfV (x : Val' × List UInt8 × Int) : V := .tup [.agg (vcells x.1), .str x.2.1, .int .i64 x.2.2]
theorem vfV_free (x : Val' × List UInt8 × Int) : (vfV x).Free := .tup _ fun v hv => by
  simp only [List.mem_cons, List.not_mem_nil, or_false] at hv
  rcases hv with rfl | rfl | rfl
  · exact vcells_free _
  · exact .str _
  · exact .im _

theorem value6_ct (G : Nat → Option (List V)) (hG : G 1 = some wV) (c : UInt8) (hc : wdL.lookup c.toNat = some 0 → False) (hc2 : wdL.lookup c.toNat = none → c = 83 ∨ c = 76 ∨ c = 84) (s : List UInt8) (hs : s.length ≤ maxStr) (H : Heap) :
    Call2 Go.Proofs.Tryd.prog G 72 [.int .u8 (c.toNat : Int), .str s] H fun r H' => H' = H ∧ r = vfV (valueF c s) := by
  refine Call2.free (fun x hx => by
    simp only [List.mem_cons, List.not_mem_nil, or_false] at hx
    rcases hx with rfl | rfl
    · exact .im _
    · exact .str _) ?_ H
  refine stCall2 Go.Proofs.Tryd.func72 rfl (by decide) ?_
  conv => whnf
  refine Call2.mono (widths_ct G _) fun r0 H0 h => ?_
  obtain ⟨h1, h2⟩ := h
  rw [h1, h2]
  clear h1 h2 r0 H0
  conv => whnf
  refine find_wds 0 fun i => ?_
  cases hlk : wdL.lookup c.toNat with
  | some n =>
    have hvf : valueF c s = ((((ntake s n.toNat).1 : Int), []), (ntake s n.toNat).2) := by unfold valueF; rw [hlk]
    have hn0 : n ≠ 0 := fun h => hc (by rw [hlk, h])
    have hn := wdL_some hlk
    obtain ⟨k, rfl⟩ : ∃ k : Nat, n = (k : Int) := ⟨n.toNat, by omega⟩
    have hk := ntake_ct G hG k (by omega) s
    rw [hvf]
    simp only [Int.toNat_natCast]
    generalize ntake s k = x at hk
    obtain ⟨x1, x2, x3⟩ := x
    unfold ntV at hk
    conv => whnf
    refine Call2.mono (hk _) fun r0 H0 h => ?_
    obtain ⟨h1, h2⟩ := h
    rw [h1, h2]
    clear h1 h2 r0 H0
    conv => whnf
    exact ⟨vfV_free (((x1 : Int), []), x2, x3), rfl⟩
  | none =>
    have hc3 := hc2 hlk
    simp only
    conv => whnf
    by_cases h83 : c.toNat = 83
    · refine br_t (decide_eq_true (by omega)) ?_
      have hcc : c = 83 := (u8_ne (by decide)).1 h83
      have hvf : valueF c s = ((0, (ttake 1 s).1), (ttake 1 s).2) := by unfold valueF; rw [hlk]; simp only; rw [if_pos hcc]
      have hk := tshort_ct G hG s hs
      rw [hvf]
      unfold ssV at hk
      conv => whnf
      refine Call2.mono (hk _) fun r0 H0 h => ?_
      obtain ⟨h1, h2⟩ := h
      rw [h1, h2]
      clear h1 h2 r0 H0
      conv => whnf
      exact ⟨vfV_free ((0, (ttake 1 s).1), (ttake 1 s).2), rfl⟩
    · refine br_f (decide_eq_false (by omega)) ?_
      have hcc : c ≠ 83 := fun h => h83 (by rw [h]; rfl)
      by_cases h76 : c.toNat = 76
      · refine br_t (decide_eq_true (by omega)) ?_
        have hcd : c = 76 := (u8_ne (by decide)).1 h76
        have hvf : valueF c s = ((0, (ttake 4 s).1), (ttake 4 s).2) := by unfold valueF; rw [hlk]; simp only; rw [if_neg hcc, if_pos hcd]
        have hk := tlong_ct G hG s hs
        rw [hvf]
        unfold ssV at hk
        conv => whnf
        refine Call2.mono (hk _) fun r0 H0 h => ?_
        obtain ⟨h1, h2⟩ := h
        rw [h1, h2]
        clear h1 h2 r0 H0
        conv => whnf
        exact ⟨vfV_free ((0, (ttake 4 s).1), (ttake 4 s).2), rfl⟩
      · refine br_f (decide_eq_false (by omega)) ?_
        have hcd : c ≠ 76 := fun h => h76 (by rw [h]; rfl)
        have hce : c = 84 := by
          rcases hc3 with h | h | h
          · exact absurd h hcc
          · exact absurd h hcd
          · exact h
        have h84 : c.toNat = 84 := by rw [hce]; rfl
        refine br_t (decide_eq_true (by omega)) ?_
        have hvf : valueF c s = ((0, (tblF s).1), (tblF s).2) := by unfold valueF; rw [hlk]; simp only; rw [if_neg hcc, if_neg hcd]
        have hk := table_ct G hG s hs
        rw [hvf]
        unfold ssV at hk
        conv => whnf
        refine Call2.mono (hk _) fun r0 H0 h => ?_
        obtain ⟨h1, h2⟩ := h
        rw [h1, h2]
        clear h1 h2 r0 H0
        conv => whnf
        exact ⟨vfV_free ((0, (tblF s).1), (tblF s).2), rfl⟩
end Go.Abs.Sig

/-! N13 -/
namespace Go.Abs.Sig
open Go.RowKit Go.Abs
set_option linter.unusedSimpArgs false
set_option linter.unusedVariables false
set_option maxRecDepth 8000
attribute [local irreducible] StCall StYield WPc Weak IterOf Lp2

/-- How many bits stand at the letters' head. -/
def runB : List UInt8 → Nat
  | c :: l => if c = 98 then runB l + 1 else 0
  | [] => 0
def bitVal (b : Bool) : Val' := (if b then 1 else 0, [])
def takeL : Nat → List UInt8 → List UInt8 → List Val' → List Val' × List UInt8 × Int
  | _, [], rest, args => (args, rest, 0)
  | 0, _ :: _, rest, args => (args, rest, 0)
  | f + 1, c :: ls, rest, args =>
    if runB (c :: ls) > 0 then
      if (tbits rest (runB (c :: ls))).2.2 ≠ 0 then (args, (tbits rest (runB (c :: ls))).2.1, (tbits rest (runB (c :: ls))).2.2)
      else takeL f ((c :: ls).drop (runB (c :: ls))) (tbits rest (runB (c :: ls))).2.1 (args ++ (tbits rest (runB (c :: ls))).1.map bitVal)
    else
      if (valueF c rest).2.2 ≠ 0 then (args, (valueF c rest).2.1, (valueF c rest).2.2)
      else takeL f ls (valueF c rest).2.1 (args ++ [(valueF c rest).1])
def tailE (rest : List UInt8) (e : Int) : Int := if e = 0 ∧ rest ≠ [] then 7 else e
def zMet : Met := (0, 0, [])
def take6 (s : List UInt8) : Met × Int :=
  if (ntake s 2).2.2 ≠ 0 then (zMet, (ntake s 2).2.2) else
  if (ntake (ntake s 2).2.1 2).2.2 ≠ 0 then (zMet, (ntake (ntake s 2).2.1 2).2.2) else
  if isAt (ntake s 2).1 (ntake (ntake s 2).2.1 2).1 = false then (zMet, 7) else
  ((((ntake s 2).1 : Int), ((ntake (ntake s 2).2.1 2).1 : Int), (takeL (rowAt (ntake s 2).1 (ntake (ntake s 2).2.1 2).1).2.2.1.length (rowAt (ntake s 2).1 (ntake (ntake s 2).2.1 2).1).2.2.1 (ntake (ntake s 2).2.1 2).2.1 []).1),
    tailE (takeL (rowAt (ntake s 2).1 (ntake (ntake s 2).2.1 2).1).2.2.1.length (rowAt (ntake s 2).1 (ntake (ntake s 2).2.1 2).1).2.2.1 (ntake (ntake s 2).2.1 2).2.1 []).2.1
      (takeL (rowAt (ntake s 2).1 (ntake (ntake s 2).2.1 2).1).2.2.1.length (rowAt (ntake s 2).1 (ntake (ntake s 2).2.1 2).1).2.2.1 (ntake (ntake s 2).2.1 2).2.1 []).2.2)

theorem runB_le : ∀ (l : List UInt8), runB l ≤ l.length
  | [] => Nat.le_refl _
  | c :: l => by
    unfold runB
    have := runB_le l
    split <;> simp <;> omega
theorem runB_all : ∀ (l : List UInt8) (i : Nat), i < runB l → l[i]? = some 98
  | [], i, h => by simp [runB] at h
  | c :: l, i, h => by
    unfold runB at h
    split at h
    · rename_i hc
      cases i with
      | zero => simp [hc]
      | succ i => simpa using runB_all l i (by omega)
    · omega
theorem runB_stop : ∀ (l : List UInt8) (c : UInt8), l[runB l]? = some c → c ≠ 98
  | [], c, h => by simp [runB] at h
  | b :: l, c, h => by
    unfold runB at h
    split at h
    · rename_i hb
      exact runB_stop l c (by simpa using h)
    · rename_i hb
      simp at h
      subst h
      exact hb
/-- The number of letters from a place on, found by looking. -/
theorem runB_at {L : List UInt8} {i k : Nat} (hik : i ≤ k) (hall : ∀ j, i ≤ j → j < k → L[j]? = some 98) (hstop : ∀ c, L[k]? = some c → c ≠ 98) (hk : k ≤ L.length) : runB (L.drop i) = k - i := by
  have h1 : ∀ j, j < k - i → (L.drop i)[j]? = some 98 := fun j hj => by rw [List.getElem?_drop]; exact hall _ (by omega) (by omega)
  have h2 : ∀ c, (L.drop i)[k - i]? = some c → c ≠ 98 := fun c hc => hstop c (by rw [List.getElem?_drop] at hc; rwa [show i + (k - i) = k by omega] at hc)
  rcases Nat.lt_trichotomy (runB (L.drop i)) (k - i) with h | h | h
  · exact absurd rfl (runB_stop _ _ (h1 _ h))
  · exact h
  · exact absurd rfl (h2 _ (runB_all _ _ h))

theorem tbits_len (s : List UInt8) (n : Nat) : (tbits s n).2.1.length ≤ s.length ∧ ((tbits s n).2.2 = 0 → (tbits s n).1.length = n) := by
  unfold tbits
  split
  · exact ⟨Nat.zero_le _, fun h => by cases h⟩
  · split
    · exact ⟨Nat.zero_le _, fun h => by cases h⟩
    · simp
theorem valueF_len (c : UInt8) (s : List UInt8) : (valueF c s).2.1.length ≤ s.length := by
  unfold valueF
  split
  · exact (ntake_len s _).1
  · split
    · exact (ttake_len 1 s).1
    · split
      · exact (ttake_len 4 s).1
      · show (tblF s).2.1.length ≤ s.length
        unfold tblF takenF
        split
        · exact Nat.zero_le _
        · rename_i h
          have h0 : (tabF s).2 = 0 := by simpa using h
          exact withF_len _ _ s h0

theorem tab_short64 (c i : Int) : (rowAt c i).2.2.1.length ≤ 64 := by
  cases hb : isAt c i with
  | false => rw [at_none hb]; decide
  | true =>
    have h : (tab.all fun r => decide (r.2.2.1.length ≤ 64)) = true := by decide
    have := List.all_eq_true.1 h _ (at_some hb)
    simpa using this
theorem ntake_lt (s : List UInt8) (n : Nat) : (ntake s n).1 < 256 ^ n := by
  unfold ntake
  split
  · exact Nat.pow_pos (by decide)
  · exact beN_lt n _ (by rw [List.length_take]; omega)
theorem vw_tupM {n : Nat} {x y : V} {e : Value} (h : VW n x y) : VW n (.tup [x, .im e]) (.tup [y, .im e]) := .tup _ _ rfl fun j v v' h1 h2 => by
  match j with
  | 0 => cases h1; cases h2; exact h
  | 1 => cases h1; cases h2; exact .im _
  | j + 2 => simp at h1
end Go.Abs.Sig

/-! N14 -/
namespace Go.Abs.Sig
open Go.RowKit Go.Abs
set_option linter.unusedSimpArgs false
set_option linter.unusedVariables false
set_option maxRecDepth 8000
attribute [local irreducible] StCall StYield WPc Weak IterOf Lp2

def tmH (c d : Int) (args : List Val') : Heap := [some (.cells 26 zM), some (.cells 26 [.int .i64 c, .int .i64 d, .dat 2 (vals args) (.cls 98)])]
def tmS (c d : Int) (rest L : List UInt8) (i : Nat) (args : List Val') : S2 := headS 129 ([.bad, .bad, .ptr 0 0, .bad, .bad, .str rest, .int .i64 0, .bad, .ptr 1 0, .str L, .bad, .int .i64 (i : Int)] ++ List.replicate 117 .bad) (tmH c d args) [] none
/-- In the loop that counts bits. -/
def tkS (c d : Int) (rest L : List UInt8) (i k : Nat) (args : List Val') : S2 := headS 129 ([.bad, .bad, .ptr 0 0, .bad, .bad, .str rest, .int .i64 0, .bad, .ptr 1 0, .str L, .bad, .int .i64 (i : Int), .im (.int .i64 (k : Int))] ++ List.replicate 116 .bad) (tmH c d args) [] none
/-- In the loop that lays bits. -/
def tlS (c d : Int) (rest L : List UInt8) (k : Nat) (bits : List Bool) (args : List Val') (j : Nat) : S2 := headS 129 ([.bad, .bad, .ptr 0 0, .bad, .bad, .str rest, .int .i64 0, .bad, .ptr 1 0, .str L, .bad, .bad, .im (.int .i64 (k : Int))] ++ List.replicate 72 .bad ++ [.dat 1 (bools bits) .no, .int .i64 (bits.length : Int), .im (.int .i64 (j : Int))] ++ List.replicate 41 .bad) (tmH c d args) [] none

theorem tmH_bws (c d : Int) (args : List Val') : BWs 2 (tmH c d args) (tmH c d args) := .cons zM_bw (.cons (.cells _ _ _ (.cons (.im _) (.cons (.im _) (.cons (.dat _ _ _) .nil)))) (.nil _))

theorem letter_ok {b : UInt8} (h : b = 111 ∨ b = 115 ∨ b = 108 ∨ b = 113 ∨ b = 98 ∨ b = 83 ∨ b = 76 ∨ b = 84) (h98 : b ≠ 98) : (wdL.lookup b.toNat = some 0 → False) ∧ (wdL.lookup b.toNat = none → b = 83 ∨ b = 76 ∨ b = 84) := by
  rcases h with rfl | rfl | rfl | rfl | rfl | rfl | rfl | rfl
  · exact ⟨by decide, by decide⟩
  · exact ⟨by decide, by decide⟩
  · exact ⟨by decide, by decide⟩
  · exact ⟨by decide, by decide⟩
  · exact absurd rfl h98
  · exact ⟨by decide, by decide⟩
  · exact ⟨by decide, by decide⟩
  · exact ⟨by decide, by decide⟩
theorem bools_get {l : List Bool} {j : Nat} {b : Bool} (h : l[j]? = some b) : (bools l)[Int.toNat (j : Int)]? = some [.bool b] := by
  show (bools l)[j]? = _
  unfold bools
  rw [List.getElem?_map, h]; rfl

set_option maxHeartbeats 4000000 in
theorem mtake_ct (G : Nat → Option (List V)) (hG : G 1 = some wV) (s : List UInt8) (hs : s.length ≤ maxStr) (H : Heap) : Call2 Go.Proofs.Tryd.prog G 50 [.str s] H fun r H' => H' = H ∧ r = .tup [.agg (mcells (take6 s).1), .int .i64 (take6 s).2] := by
  refine Call2.free (fun x hx => by
    simp only [List.mem_cons, List.not_mem_nil, or_false] at hx
    subst hx
    exact .str _) ?_ H
  refine Call2.weakR ?_
  refine stCall2 Go.Proofs.Tryd.func50 rfl (by decide) ?_
  have h1 := ntake_ct G hG 2 (by decide) s
  have hl1 := (ntake_len s 2).1
  have hc := ntake_lt s 2
  unfold take6
  generalize ntake s 2 = x at h1 hl1 hc
  obtain ⟨c, r1, e1⟩ := x
  have h2 := ntake_ct G hG 2 (by decide) r1
  have hl2 := (ntake_len r1 2).1
  have hd := ntake_lt r1 2
  simp only
  generalize ntake r1 2 = y at h2 hl2 hd
  obtain ⟨d, r2, e2⟩ := y
  unfold ntV at h1 h2
  conv => whnf
  intro hws
  refine wpc_scope2 hws ?_
  conv => whnf
  refine Call2.mono (h1 _) fun r0 H0 h => ?_
  obtain ⟨h1, h2⟩ := h
  rw [h1, h2]
  clear h1 h2 r0 H0
  conv => whnf
  by_cases he1 : e1 ≠ 0
  · refine br_t (decide_eq_true he1) ?_
    conv => whnf
    rw [if_pos he1]
    exact ⟨_, vw_tupM (vw_metE (l := []) (.inr rfl)), free_tup2 (mcells_free _) (.im _), rfl⟩
  refine br_f (decide_eq_false he1) ?_
  rw [if_neg he1]
  conv => whnf
  refine Call2.mono (h2 _) fun r0 H0 h => ?_
  obtain ⟨h1, h2⟩ := h
  rw [h1, h2]
  clear h1 h2 r0 H0
  conv => whnf
  by_cases he2 : e2 ≠ 0
  · refine br_t (decide_eq_true he2) ?_
    conv => whnf
    rw [if_pos he2]
    exact ⟨_, vw_tupM (vw_metE (l := []) (.inr rfl)), free_tup2 (mcells_free _) (.im _), rfl⟩
  refine br_f (decide_eq_false he2) ?_
  rw [if_neg he2]
  have hwc : IntKind.i64.wrap (c : Int) = (c : Int) := by rw [wrap_i64 (by omega) (by simp at hc; omega)]
  have hwd : IntKind.i64.wrap (d : Int) = (d : Int) := by rw [wrap_i64 (by omega) (by simp at hd; omega)]
  conv => whnf
  rw [hwc, hwd]
  refine Call2.mono (of_ct G c d _) fun r0 H0 h => ?_
  obtain ⟨h1, h2⟩ := h
  rw [h1, h2]
  clear h1 h2 r0 H0
  conv => whnf
  have hsh := tab_short64 c d
  have hlets := @letters_at c d
  cases hat : isAt c d with
  | false =>
    conv => whnf
    rw [if_pos rfl]
    exact ⟨_, vw_tupM (vw_metE (l := []) (.inr rfl)), free_tup2 (mcells_free _) (.im _), rfl⟩
  | true =>
    rw [if_neg (by simp)]
    generalize (rowAt c d).2.2.1 = L at hsh hlets
    conv => whnf
    intro hw
    refine wpc_loop2 (fun n1 s1 => ∃ (i f : Nat) (rest : List UInt8) (args : List Val'), i ≤ L.length ∧ n1 = L.length - i ∧ args.length = i ∧ L.length - i ≤ f ∧ rest.length ≤ maxStr ∧ s1 = tmS c d rest L i args ∧ takeL f (L.drop i) rest args = takeL L.length L r2 []) L.length (tmS c d r2 L 0 []) ?_
      ⟨0, L.length, r2, [], by omega, rfl, rfl, by omega, Nat.le_trans hl2 (Nat.le_trans hl1 hs), rfl, rfl⟩ ?_ ?_
    · refine weak2 hw rfl ⟨.ptr 0 0 (show 0 < 2 by decide), .str _, .int (by simpa using he2), .ptr 1 0 (show 1 < 2 by decide), .str _, .im _, trivial⟩ ?_ (fun id hid => by cases hid) rfl (fun id hid => by cases hid)
      exact .cons zM_bw (.cons (.cells _ _ _ (.cons (.im _) (.cons (.im _) (.cons (.nil _ _ _ _ (.inl rfl)) .nil)))) (.nil _))
    · rintro n1 s1 ⟨i, f, rest, args, _, _, _, _, _, rfl, _⟩
      exact ⟨⟨Nat.le_refl 129, fun x hx => by cases hx⟩, rfl, Nat.le_refl _, rfl⟩
    · rintro n1 s1 ⟨i, f, rest, args, hi, rfl, hal, hf, hrl, rfl, hinv⟩
      by_cases hil : i < L.length
      · obtain ⟨b, hb⟩ := str_get hil
        have hdrop : L.drop i = b :: L.drop (i + 1) := by rw [List.drop_eq_getElem_cons hil, (List.getElem?_eq_some_iff.1 hb).2]
        obtain ⟨f, rfl⟩ : ∃ f', f = f' + 1 := ⟨f - 1, by omega⟩
        conv => whnf
        refine br_t (decide_eq_true (by omega)) ?_
        conv => whnf
        intro hwA
        refine wpc_loop2 (fun n1 s1 => ∃ k : Nat, i ≤ k ∧ k ≤ L.length ∧ n1 = L.length - k ∧ s1 = tkS c d rest L i k args ∧ ∀ j, i ≤ j → j < k → L[j]? = some 98) (L.length - i) (tkS c d rest L i i args) ?_ ⟨i, Nat.le_refl _, by omega, rfl, rfl, fun j h1 h2 => by omega⟩ ?_ ?_
        · exact weak2 hwA rfl ⟨.ptr 0 0 (show 0 < 2 by decide), .str _, .im _, .ptr 1 0 (show 1 < 2 by decide), .str _, .im _, .im _, trivial⟩ (tmH_bws _ _ _) (fun id hid => by cases hid) rfl (fun id hid => by cases hid)
        · rintro n1 s1 ⟨k, _, _, _, rfl, _⟩
          exact ⟨⟨Nat.le_refl 129, fun x hx => by cases hx⟩, rfl, Nat.le_refl _, rfl⟩
        · rintro n1 s1 ⟨k, hik, hkl, rfl, rfl, hall⟩
          by_cases hk : k < L.length
          · obtain ⟨b2, hb2⟩ := str_get hk
            have hgetb : L[Int.toNat (k : Int)]? = some b2 := hb2
            have hd0 : decide (0 ≤ (k : Int)) = true := decide_eq_true (by omega)
            have hwk : IntKind.i64.wrap ((k : Int) + 1) = ((k + 1 : Nat) : Int) := by rw [wrap_i64 (by omega) (by omega)]; rfl
            conv => whnf
            rw [show decide ((k : Int) < (L.length : Int)) = true from decide_eq_true (by omega)]
            conv => whnf
            refine grd_intro hd0 (optK_intro hgetb ?_)
            conv => whnf
            by_cases h98 : b2.toNat = 98
            · refine br_t (decide_eq_true (by omega)) ?_
              have hb98 : b2 = 98 := (u8_ne (by decide)).1 h98
              conv => whnf
              intro hw3
              refine ⟨L.length - (k + 1), tkS c d rest L i (k + 1) args, by omega, ?_, k + 1, by omega, by omega, rfl, rfl, fun j h1 h2 => ?_⟩
              · exact weak2 hw3 rfl ⟨.ptr 0 0 (show 0 < 2 by decide), .str _, .im _, .ptr 1 0 (show 1 < 2 by decide), .str _, .im _, .int hwk, trivial⟩ (tmH_bws _ _ _) (fun id hid => by cases hid) rfl (fun id hid => by cases hid)
              · by_cases hjk : j = k
                · rw [hjk, hb2, hb98]
                · exact hall j h1 (by omega)
            · refine br_f (decide_eq_false (by omega)) ?_
              have hstop : ∀ x, L[k]? = some x → x ≠ 98 := fun x hx h => h98 (by rw [hb2] at hx; cases hx; rw [h]; rfl)
              conv => whnf
              have hrun := runB_at hik hall hstop hkl
              by_cases hki : i < k
              · refine br_t (decide_eq_true (by omega)) ?_
                have hsub : IntKind.i64.wrap ((k : Int) - (i : Int)) = ((k - i : Nat) : Int) := by rw [wrap_i64 (by omega) (by omega)]; omega
                have htb := takeBits_ct G rest (k - i) (by omega)
                have htl := tbits_len rest (k - i)
                rw [hdrop, takeL, ← hdrop, hrun, if_pos (by omega)] at hinv
                generalize tbits rest (k - i) = z at htb htl hinv
                obtain ⟨bits, left, e⟩ := z
                unfold tbV at htb
                simp only at hinv htl
                conv => whnf
                rw [hsub]
                refine Call2.mono (htb _) fun r0 H0 h => ?_
                obtain ⟨h1, h2⟩ := h
                rw [h1, h2]
                clear h1 h2 r0 H0
                conv => whnf
                by_cases he : e ≠ 0
                · refine br_t (decide_eq_true he) ?_
                  rw [if_pos he] at hinv
                  conv => whnf
                  have hte : tailE left e = e := by unfold tailE; rw [if_neg (by simp [he])]
                  rw [show decide (e = 0) = false from decide_eq_false he]
                  conv => whnf
                  refine ⟨_, vw_tupM (vw_metE (l := args) (.inl rfl)), free_tup2 (mcells_free _) (.im _), ?_⟩
                  rw [← hinv]
                  simp only
                  rw [hte]
                · refine br_f (decide_eq_false he) ?_
                  rw [if_neg he] at hinv
                  have he0 : e = 0 := by simpa using he
                  have hbl := htl.2 he0
                  conv => whnf
                  intro hwB
                  refine wpc_loop2 (fun n1 s1 => ∃ j : Nat, j ≤ bits.length ∧ n1 = bits.length - j ∧ s1 = tlS c d left L k bits (args ++ (bits.take j).map bitVal) j) bits.length (tlS c d left L k bits args 0) ?_ ⟨0, by omega, rfl, by simp⟩ ?_ ?_
                  · exact weak2 hwB rfl ⟨.ptr 0 0 (show 0 < 2 by decide), .str _, .int he0, .ptr 1 0 (show 1 < 2 by decide), .str _, .im _, .dat _ _ _, .int (by rw [bools_len]), .im _, trivial⟩ (tmH_bws _ _ _) (fun id hid => by cases hid) rfl (fun id hid => by cases hid)
                  · rintro n1 s1 ⟨j, _, _, rfl⟩
                    exact ⟨⟨Nat.le_refl 129, fun x hx => by cases hx⟩, rfl, Nat.le_refl _, rfl⟩
                  · rintro n1 s1 ⟨j, hj, rfl, rfl⟩
                    have hal2 : (args ++ (bits.take j).map bitVal).length ≤ 200 := by simp; omega
                    by_cases hjl : j < bits.length
                    · obtain ⟨bb, hbb⟩ : ∃ x, bits[j]? = some x := ⟨_, List.getElem?_eq_getElem hjl⟩
                      have hgj := bools_get hbb
                      have hgd : (true && true && decide ((0 : Int) ≤ (j : Int))) = true := by simp
                      have hwj : IntKind.i64.wrap ((j : Int) + 1) = ((j + 1 : Nat) : Int) := by rw [wrap_i64 (by omega) (by omega)]; rfl
                      have htk : (bits.take (j + 1)).map bitVal = (bits.take j).map bitVal ++ [bitVal bb] := by rw [List.take_add_one, hbb]; simp
                      have hrw : vals (args ++ (bits.take (j + 1)).map bitVal) = vals (args ++ (bits.take j).map bitVal) ++ [vcells (bitVal bb)] := by rw [htk, ← List.append_assoc, vals_app]; rfl
                      have hvl3 : (vals (args ++ (bits.take j).map bitVal)).length ≤ 200 := by simpa [vals] using hal2
                      obtain ⟨args3, h3⟩ : ∃ x, x = args ++ (bits.take (j + 1)).map bitVal := ⟨_, rfl⟩
                      rw [← h3] at hrw
                      generalize args ++ (bits.take j).map bitVal = args2 at hrw hvl3 ⊢
                      conv => whnf
                      refine br_t (decide_eq_true (by omega)) ?_
                      conv => whnf
                      refine grd_intro hgd (optK_intro hgj ?_)
                      cases bb
                      · conv => whnf
                        refine ⟨.inr rfl, .inr rfl, ?_, ?_, ?_, ?_⟩
                        · intro r hr
                          obtain rfl := List.mem_singleton.1 hr
                          rfl
                        · show ((vals args2).length + 1) * 24 ≤ 140737488355328
                          omega
                        · show (vals args2).length + 1 ≤ 140737488355328
                          omega
                        conv => whnf
                        intro hw6
                        refine ⟨bits.length - (j + 1), tlS c d left L k bits args3 (j + 1), by omega, ?_, j + 1, by omega, rfl, by rw [h3]⟩
                        refine weak2 hw6 rfl ⟨.ptr 0 0 (show 0 < 2 by decide), .str _, .im _, .ptr 1 0 (show 1 < 2 by decide), .str _, .im _, .dat _ _ _, .im _, .int hwj, trivial⟩ ?_ (fun id hid => by cases hid) rfl (fun id hid => by cases hid)
                        unfold tmH
                        rw [hrw]
                        exact .cons zM_bw (.cons (.cells _ _ _ (.cons (.im _) (.cons (.im _) (.cons (.dat _ _ _) .nil)))) (.nil _))
                      · conv => whnf
                        refine ⟨.inr rfl, .inr rfl, ?_, ?_, ?_, ?_⟩
                        · intro r hr
                          obtain rfl := List.mem_singleton.1 hr
                          rfl
                        · show ((vals args2).length + 1) * 24 ≤ 140737488355328
                          omega
                        · show (vals args2).length + 1 ≤ 140737488355328
                          omega
                        conv => whnf
                        intro hw6
                        refine ⟨bits.length - (j + 1), tlS c d left L k bits args3 (j + 1), by omega, ?_, j + 1, by omega, rfl, by rw [h3]⟩
                        refine weak2 hw6 rfl ⟨.ptr 0 0 (show 0 < 2 by decide), .str _, .im _, .ptr 1 0 (show 1 < 2 by decide), .str _, .im _, .dat _ _ _, .im _, .int hwj, trivial⟩ ?_ (fun id hid => by cases hid) rfl (fun id hid => by cases hid)
                        unfold tmH
                        rw [hrw]
                        exact .cons zM_bw (.cons (.cells _ _ _ (.cons (.im _) (.cons (.im _) (.cons (.dat _ _ _) .nil)))) (.nil _))
                    · have hje : j = bits.length := by omega
                      rw [hje, List.take_length]
                      conv => whnf
                      refine br_f (decide_eq_false (by omega)) ?_
                      conv => whnf
                      intro hw5
                      have hdd : (L.drop i).drop (k - i) = L.drop k := by rw [List.drop_drop]; congr 1; omega
                      rw [hdd] at hinv
                      refine ⟨L.length - k, tmS c d left L k (args ++ bits.map bitVal), by omega, ?_, k, f, left, args ++ bits.map bitVal, by omega, rfl, by simp; omega, by omega, Nat.le_trans htl.1 hrl, rfl, hinv⟩
                      exact weak2 hw5 rfl ⟨.ptr 0 0 (show 0 < 2 by decide), .str _, .im _, .ptr 1 0 (show 1 < 2 by decide), .str _, .im _, trivial⟩ (tmH_bws _ _ _) (fun id hid => by cases hid) rfl (fun id hid => by cases hid)
              · refine br_f (decide_eq_false (by omega)) ?_
                obtain rfl : k = i := by omega
                rw [hdrop, takeL, ← hdrop, hrun, if_neg (by omega)] at hinv
                have hbm : b ∈ L := List.mem_of_getElem? hb
                have hlet := letter_ok (hlets hbm) (hstop b hb)
                have hval := value6_ct G hG b hlet.1 hlet.2 rest hrl
                have hvll := valueF_len b rest
                generalize valueF b rest = z at hval hvll hinv
                obtain ⟨v, left, e⟩ := z
                unfold vfV at hval
                simp only at hinv hvll
                have hgi : L[Int.toNat (k : Int)]? = some b := hb
                have hdi : decide (0 ≤ (k : Int)) = true := decide_eq_true (by omega)
                have hwi : IntKind.i64.wrap ((k : Int) + 1) = ((k + 1 : Nat) : Int) := by rw [wrap_i64 (by omega) (by omega)]; rfl
                conv => whnf
                refine grd_intro hdi (optK_intro hgi ?_)
                conv => whnf
                refine Call2.mono (hval _) fun r0 H0 h => ?_
                obtain ⟨h1, h2⟩ := h
                rw [h1, h2]
                clear h1 h2 r0 H0
                conv => whnf
                by_cases he : e ≠ 0
                · refine br_t (decide_eq_true he) ?_
                  rw [if_pos he] at hinv
                  conv => whnf
                  have hte : tailE left e = e := by unfold tailE; rw [if_neg (by simp [he])]
                  rw [show decide (e = 0) = false from decide_eq_false he]
                  conv => whnf
                  refine ⟨_, vw_tupM (vw_metE (l := args) (.inl rfl)), free_tup2 (mcells_free _) (.im _), ?_⟩
                  rw [← hinv]
                  simp only
                  rw [hte]
                · refine br_f (decide_eq_false he) ?_
                  rw [if_neg he] at hinv
                  have he0 : e = 0 := by simpa using he
                  have hrw : vals (args ++ [v]) = vals args ++ [vcells v] := by rw [vals_app]; rfl
                  have hvl3 : (vals args).length ≤ 200 := by simp [vals]; omega
                  conv => whnf
                  refine ⟨.inr rfl, .inr rfl, ?_, ?_, ?_, ?_⟩
                  · intro r hr
                    obtain rfl := List.mem_singleton.1 hr
                    rfl
                  · show ((vals args).length + 1) * 24 ≤ 140737488355328
                    omega
                  · show (vals args).length + 1 ≤ 140737488355328
                    omega
                  conv => whnf
                  intro hw6
                  refine ⟨L.length - (k + 1), tmS c d left L (k + 1) (args ++ [v]), by omega, ?_, k + 1, f, left, args ++ [v], by omega, rfl, by simp; omega, by omega, Nat.le_trans hvll hrl, rfl, hinv⟩
                  refine weak2 hw6 rfl ⟨.ptr 0 0 (show 0 < 2 by decide), .str _, .int he0, .ptr 1 0 (show 1 < 2 by decide), .str _, .int hwi, trivial⟩ ?_ (fun id hid => by cases hid) rfl (fun id hid => by cases hid)
                  unfold tmH
                  rw [hrw]
                  exact .cons zM_bw (.cons (.cells _ _ _ (.cons (.im _) (.cons (.im _) (.cons (.dat _ _ _) .nil)))) (.nil _))
          · have hke : k = L.length := by omega
            have hstop : ∀ x, L[k]? = some x → x ≠ 98 := fun x hx => by
              rw [hke] at hx; simp at hx
            conv => whnf
            rw [show decide ((k : Int) < (L.length : Int)) = false from decide_eq_false (by omega)]
            conv => whnf
            have hrun := runB_at hik hall hstop hkl
            by_cases hki : i < k
            · refine br_t (decide_eq_true (by omega)) ?_
              have hsub : IntKind.i64.wrap ((k : Int) - (i : Int)) = ((k - i : Nat) : Int) := by rw [wrap_i64 (by omega) (by omega)]; omega
              have htb := takeBits_ct G rest (k - i) (by omega)
              have htl := tbits_len rest (k - i)
              rw [hdrop, takeL, ← hdrop, hrun, if_pos (by omega)] at hinv
              generalize tbits rest (k - i) = z at htb htl hinv
              obtain ⟨bits, left, e⟩ := z
              unfold tbV at htb
              simp only at hinv htl
              conv => whnf
              rw [hsub]
              refine Call2.mono (htb _) fun r0 H0 h => ?_
              obtain ⟨h1, h2⟩ := h
              rw [h1, h2]
              clear h1 h2 r0 H0
              conv => whnf
              by_cases he : e ≠ 0
              · refine br_t (decide_eq_true he) ?_
                rw [if_pos he] at hinv
                conv => whnf
                have hte : tailE left e = e := by unfold tailE; rw [if_neg (by simp [he])]
                rw [show decide (e = 0) = false from decide_eq_false he]
                conv => whnf
                refine ⟨_, vw_tupM (vw_metE (l := args) (.inl rfl)), free_tup2 (mcells_free _) (.im _), ?_⟩
                rw [← hinv]
                simp only
                rw [hte]
              · refine br_f (decide_eq_false he) ?_
                rw [if_neg he] at hinv
                have he0 : e = 0 := by simpa using he
                have hbl := htl.2 he0
                conv => whnf
                intro hwB
                refine wpc_loop2 (fun n1 s1 => ∃ j : Nat, j ≤ bits.length ∧ n1 = bits.length - j ∧ s1 = tlS c d left L k bits (args ++ (bits.take j).map bitVal) j) bits.length (tlS c d left L k bits args 0) ?_ ⟨0, by omega, rfl, by simp⟩ ?_ ?_
                · exact weak2 hwB rfl ⟨.ptr 0 0 (show 0 < 2 by decide), .str _, .int he0, .ptr 1 0 (show 1 < 2 by decide), .str _, .im _, .dat _ _ _, .int (by rw [bools_len]), .im _, trivial⟩ (tmH_bws _ _ _) (fun id hid => by cases hid) rfl (fun id hid => by cases hid)
                · rintro n1 s1 ⟨j, _, _, rfl⟩
                  exact ⟨⟨Nat.le_refl 129, fun x hx => by cases hx⟩, rfl, Nat.le_refl _, rfl⟩
                · rintro n1 s1 ⟨j, hj, rfl, rfl⟩
                  have hal2 : (args ++ (bits.take j).map bitVal).length ≤ 200 := by simp; omega
                  by_cases hjl : j < bits.length
                  · obtain ⟨bb, hbb⟩ : ∃ x, bits[j]? = some x := ⟨_, List.getElem?_eq_getElem hjl⟩
                    have hgj := bools_get hbb
                    have hgd : (true && true && decide ((0 : Int) ≤ (j : Int))) = true := by simp
                    have hwj : IntKind.i64.wrap ((j : Int) + 1) = ((j + 1 : Nat) : Int) := by rw [wrap_i64 (by omega) (by omega)]; rfl
                    have htk : (bits.take (j + 1)).map bitVal = (bits.take j).map bitVal ++ [bitVal bb] := by rw [List.take_add_one, hbb]; simp
                    have hrw : vals (args ++ (bits.take (j + 1)).map bitVal) = vals (args ++ (bits.take j).map bitVal) ++ [vcells (bitVal bb)] := by rw [htk, ← List.append_assoc, vals_app]; rfl
                    have hvl3 : (vals (args ++ (bits.take j).map bitVal)).length ≤ 200 := by simpa [vals] using hal2
                    obtain ⟨args3, h3⟩ : ∃ x, x = args ++ (bits.take (j + 1)).map bitVal := ⟨_, rfl⟩
                    rw [← h3] at hrw
                    generalize args ++ (bits.take j).map bitVal = args2 at hrw hvl3 ⊢
                    conv => whnf
                    refine br_t (decide_eq_true (by omega)) ?_
                    conv => whnf
                    refine grd_intro hgd (optK_intro hgj ?_)
                    cases bb
                    · conv => whnf
                      refine ⟨.inr rfl, .inr rfl, ?_, ?_, ?_, ?_⟩
                      · intro r hr
                        obtain rfl := List.mem_singleton.1 hr
                        rfl
                      · show ((vals args2).length + 1) * 24 ≤ 140737488355328
                        omega
                      · show (vals args2).length + 1 ≤ 140737488355328
                        omega
                      conv => whnf
                      intro hw6
                      refine ⟨bits.length - (j + 1), tlS c d left L k bits args3 (j + 1), by omega, ?_, j + 1, by omega, rfl, by rw [h3]⟩
                      refine weak2 hw6 rfl ⟨.ptr 0 0 (show 0 < 2 by decide), .str _, .im _, .ptr 1 0 (show 1 < 2 by decide), .str _, .im _, .dat _ _ _, .im _, .int hwj, trivial⟩ ?_ (fun id hid => by cases hid) rfl (fun id hid => by cases hid)
                      unfold tmH
                      rw [hrw]
                      exact .cons zM_bw (.cons (.cells _ _ _ (.cons (.im _) (.cons (.im _) (.cons (.dat _ _ _) .nil)))) (.nil _))
                    · conv => whnf
                      refine ⟨.inr rfl, .inr rfl, ?_, ?_, ?_, ?_⟩
                      · intro r hr
                        obtain rfl := List.mem_singleton.1 hr
                        rfl
                      · show ((vals args2).length + 1) * 24 ≤ 140737488355328
                        omega
                      · show (vals args2).length + 1 ≤ 140737488355328
                        omega
                      conv => whnf
                      intro hw6
                      refine ⟨bits.length - (j + 1), tlS c d left L k bits args3 (j + 1), by omega, ?_, j + 1, by omega, rfl, by rw [h3]⟩
                      refine weak2 hw6 rfl ⟨.ptr 0 0 (show 0 < 2 by decide), .str _, .im _, .ptr 1 0 (show 1 < 2 by decide), .str _, .im _, .dat _ _ _, .im _, .int hwj, trivial⟩ ?_ (fun id hid => by cases hid) rfl (fun id hid => by cases hid)
                      unfold tmH
                      rw [hrw]
                      exact .cons zM_bw (.cons (.cells _ _ _ (.cons (.im _) (.cons (.im _) (.cons (.dat _ _ _) .nil)))) (.nil _))
                  · have hje : j = bits.length := by omega
                    rw [hje, List.take_length]
                    conv => whnf
                    refine br_f (decide_eq_false (by omega)) ?_
                    conv => whnf
                    intro hw5
                    have hdd : (L.drop i).drop (k - i) = L.drop k := by rw [List.drop_drop]; congr 1; omega
                    rw [hdd] at hinv
                    refine ⟨L.length - k, tmS c d left L k (args ++ bits.map bitVal), by omega, ?_, k, f, left, args ++ bits.map bitVal, by omega, rfl, by simp; omega, by omega, Nat.le_trans htl.1 hrl, rfl, hinv⟩
                    exact weak2 hw5 rfl ⟨.ptr 0 0 (show 0 < 2 by decide), .str _, .im _, .ptr 1 0 (show 1 < 2 by decide), .str _, .im _, trivial⟩ (tmH_bws _ _ _) (fun id hid => by cases hid) rfl (fun id hid => by cases hid)
            · refine br_f (decide_eq_false (by omega)) ?_
              obtain rfl : k = i := by omega
              rw [hdrop, takeL, ← hdrop, hrun, if_neg (by omega)] at hinv
              have hbm : b ∈ L := List.mem_of_getElem? hb
              have hlet := letter_ok (hlets hbm) (hstop b hb)
              have hval := value6_ct G hG b hlet.1 hlet.2 rest hrl
              have hvll := valueF_len b rest
              generalize valueF b rest = z at hval hvll hinv
              obtain ⟨v, left, e⟩ := z
              unfold vfV at hval
              simp only at hinv hvll
              have hgi : L[Int.toNat (k : Int)]? = some b := hb
              have hdi : decide (0 ≤ (k : Int)) = true := decide_eq_true (by omega)
              have hwi : IntKind.i64.wrap ((k : Int) + 1) = ((k + 1 : Nat) : Int) := by rw [wrap_i64 (by omega) (by omega)]; rfl
              conv => whnf
              refine grd_intro hdi (optK_intro hgi ?_)
              conv => whnf
              refine Call2.mono (hval _) fun r0 H0 h => ?_
              obtain ⟨h1, h2⟩ := h
              rw [h1, h2]
              clear h1 h2 r0 H0
              conv => whnf
              by_cases he : e ≠ 0
              · refine br_t (decide_eq_true he) ?_
                rw [if_pos he] at hinv
                conv => whnf
                have hte : tailE left e = e := by unfold tailE; rw [if_neg (by simp [he])]
                rw [show decide (e = 0) = false from decide_eq_false he]
                conv => whnf
                refine ⟨_, vw_tupM (vw_metE (l := args) (.inl rfl)), free_tup2 (mcells_free _) (.im _), ?_⟩
                rw [← hinv]
                simp only
                rw [hte]
              · refine br_f (decide_eq_false he) ?_
                rw [if_neg he] at hinv
                have he0 : e = 0 := by simpa using he
                have hrw : vals (args ++ [v]) = vals args ++ [vcells v] := by rw [vals_app]; rfl
                have hvl3 : (vals args).length ≤ 200 := by simp [vals]; omega
                conv => whnf
                refine ⟨.inr rfl, .inr rfl, ?_, ?_, ?_, ?_⟩
                · intro r hr
                  obtain rfl := List.mem_singleton.1 hr
                  rfl
                · show ((vals args).length + 1) * 24 ≤ 140737488355328
                  omega
                · show (vals args).length + 1 ≤ 140737488355328
                  omega
                conv => whnf
                intro hw6
                refine ⟨L.length - (k + 1), tmS c d left L (k + 1) (args ++ [v]), by omega, ?_, k + 1, f, left, args ++ [v], by omega, rfl, by simp; omega, by omega, Nat.le_trans hvll hrl, rfl, hinv⟩
                refine weak2 hw6 rfl ⟨.ptr 0 0 (show 0 < 2 by decide), .str _, .int he0, .ptr 1 0 (show 1 < 2 by decide), .str _, .int hwi, trivial⟩ ?_ (fun id hid => by cases hid) rfl (fun id hid => by cases hid)
                unfold tmH
                rw [hrw]
                exact .cons zM_bw (.cons (.cells _ _ _ (.cons (.im _) (.cons (.im _) (.cons (.dat _ _ _) .nil)))) (.nil _))
      · have hie : i = L.length := by omega
        have hfin : takeL f (L.drop i) rest args = (args, rest, 0) := by rw [hie, List.drop_length]; cases f <;> rfl
        rw [hfin] at hinv
        conv => whnf
        refine br_f (decide_eq_false (by omega)) ?_
        conv => whnf
        by_cases hr : rest ≠ []
        · rw [show decide (rest ≠ []) = true from decide_eq_true hr]
          conv => whnf
          refine ⟨_, vw_tupM (vw_metE (l := args) (.inl rfl)), free_tup2 (mcells_free _) (.im _), ?_⟩
          rw [← hinv]
          simp only
          rw [show tailE rest 0 = 7 by unfold tailE; rw [if_pos ⟨rfl, hr⟩]]
        · rw [show decide (rest ≠ []) = false from decide_eq_false hr]
          conv => whnf
          refine ⟨_, vw_tupM (vw_metE (l := args) (.inl rfl)), free_tup2 (mcells_free _) (.im _), ?_⟩
          rw [← hinv]
          simp only
          rw [show tailE rest 0 = 0 by unfold tailE; rw [if_neg (by simpa using hr)]]
end Go.Abs.Sig

/-! N15 -/
namespace Go.Abs.Sig
open Go.RowKit Go.Abs
set_option linter.unusedSimpArgs false
set_option linter.unusedVariables false
set_option maxRecDepth 8000
attribute [local irreducible] StCall StYield WPc Weak IterOf Lp2

theorem ttake_len1 (n : Nat) (s : List UInt8) : (ttake n s).1.length ≤ s.length := by
  unfold ttake
  split
  · exact Nat.zero_le _
  · exact Nat.le_trans (skipF_len _ _).1 (ntake_len s n).1
theorem tblF_len1 (s : List UInt8) : (tblF s).1.length ≤ s.length := by
  unfold tblF takenF
  split
  · exact Nat.zero_le _
  · simp
theorem valueF_len1 (c : UInt8) (s : List UInt8) : (valueF c s).1.2.length ≤ s.length := by
  unfold valueF
  split
  · exact Nat.zero_le _
  · split
    · exact ttake_len1 1 s
    · split
      · exact ttake_len1 4 s
      · exact tblF_len1 s
theorem takeL_str : ∀ (f : Nat) (ls rest : List UInt8) (args : List Val') (n : Nat), rest.length ≤ n → (∀ v ∈ args, v.2.length ≤ n) → ∀ v ∈ (takeL f ls rest args).1, v.2.length ≤ n
  | _, [], rest, args, n, hr, ha, v, hv => by
    unfold takeL at hv
    exact ha v hv
  | 0, _ :: _, rest, args, n, hr, ha, v, hv => ha v hv
  | f + 1, c :: ls, rest, args, n, hr, ha, v, hv => by
    rw [takeL] at hv
    split at hv
    · split at hv
      · exact ha v hv
      · refine takeL_str f _ _ _ n (Nat.le_trans (tbits_len _ _).1 hr) (fun x hx => ?_) v hv
        rcases List.mem_append.1 hx with hx | hx
        · exact ha x hx
        · obtain ⟨b, _, rfl⟩ := List.mem_map.1 hx
          exact Nat.zero_le _
    · split at hv
      · exact ha v hv
      · refine takeL_str f _ _ _ n (Nat.le_trans (valueF_len _ _) hr) (fun x hx => ?_) v hv
        rcases List.mem_append.1 hx with hx | hx
        · exact ha x hx
        · rw [List.mem_singleton.1 hx]
          exact Nat.le_trans (valueF_len1 _ _) hr
theorem take6_str (s : List UInt8) (h : s.length ≤ maxStr) : ∀ v ∈ (take6 s).1.2.2, v.2.length ≤ maxStr := by
  unfold take6
  split
  · intro v hv; cases hv
  · split
    · intro v hv; cases hv
    · split
      · intro v hv; cases hv
      · exact takeL_str _ _ _ _ _ (Nat.le_trans (ntake_len _ _).1 (Nat.le_trans (ntake_len _ _).1 h)) (fun v hv => by cases hv)

/-- What method.Take answers. -/
def Take6 (s : List UInt8) : Met × Int := if (take6 s).2 ≠ 0 ∨ mright tbv (take6 s).1 ≠ 0 then (zMet, 7) else ((take6 s).1, 0)

theorem mTake_ct (G : Nat → Option (List V)) (hG : G 1 = some wV) (s : List UInt8) (hs : s.length ≤ maxStr) (H : Heap) : Call2 Go.Proofs.Tryd.prog G 30 [.str s] H fun r H' => H' = H ∧ r = .tup [.agg (mcells (Take6 s).1), .int .i64 (Take6 s).2] := by
  refine Call2.free (fun x hx => by
    simp only [List.mem_cons, List.not_mem_nil, or_false] at hx
    subst hx
    exact .str _) ?_ H
  refine Call2.weakR ?_
  refine stCall2 Go.Proofs.Tryd.func30 rfl (by decide) ?_
  have h1 := mtake_ct G hG s hs
  have h2 := mrightT_ct G hG (take6 s).1 (take6_str s hs)
  unfold Take6
  generalize take6 s = x at h1 h2
  obtain ⟨m, e⟩ := x
  simp only at h1 h2 ⊢
  conv => whnf
  refine Call2.mono (h1 _) fun r0 H0 h => ?_
  obtain ⟨h1, h2⟩ := h
  rw [h1, h2]
  clear h1 h2 r0 H0
  conv => whnf
  by_cases he : e ≠ 0
  · rw [show decide (e ≠ 0) = true from decide_eq_true he]
    conv => whnf
    rw [if_pos (.inl he)]
    exact ⟨_, vw_tupM (vw_metE (l := []) (.inr rfl)), free_tup2 (mcells_free _) (.im _), rfl⟩
  · rw [show decide (e ≠ 0) = false from decide_eq_false he]
    conv => whnf
    refine Call2.mono (h2 _) fun r0 H0 h => ?_
    obtain ⟨h1, h2⟩ := h
    rw [h1, h2]
    clear h1 h2 r0 H0
    conv => whnf
    by_cases hm : mright tbv m ≠ 0
    · rw [show decide (mright tbv m ≠ 0) = true from decide_eq_true hm]
      conv => whnf
      rw [if_pos (.inr hm)]
      exact ⟨_, vw_tupM (vw_metE (l := []) (.inr rfl)), free_tup2 (mcells_free _) (.im _), rfl⟩
    · rw [show decide (mright tbv m ≠ 0) = false from decide_eq_false hm]
      conv => whnf
      rw [if_neg (by simp at he hm; simp [he, hm])]
      exact ⟨_, vw_tupM (vw_metE (l := m.2.2) (.inl rfl)), free_tup2 (mcells_free _) (.im _), rfl⟩
end Go.Abs.Sig

/-! Q1 -/
namespace Go.Abs.Sig
open Go.RowKit Go.Abs
set_option linter.unusedSimpArgs false
set_option linter.unusedVariables false
set_option maxRecDepth 8000

/-! ### numbers as bytes -/
theorem byteAt_nat (m i : Nat) : byteAt (m : Int) i = UInt8.ofNat (m / 256 ^ i % 256) := by
  unfold byteAt
  have h1 : (m : Int).fdiv (2 ^ (8 * i)) = ((m / 256 ^ i : Nat) : Int) := by
    rw [Int.fdiv_eq_ediv_of_nonneg _ (Int.pow_nonneg (by decide)), show (2 : Int) ^ (8 * i) = ((256 ^ i : Nat) : Int) by rw [Int.pow_mul]; norm_cast, ← Int.natCast_ediv]
  rw [h1]
  have h2 : IntKind.u8.wrap ((m / 256 ^ i : Nat) : Int) = ((m / 256 ^ i % 256 : Nat) : Int) := by
    simp [IntKind.wrap, IntKind.bits, IntKind.signed]
  rw [h2, Int.toNat_natCast]

theorem beN_cons (b : UInt8) (l : List UInt8) : beN (b :: l) = b.toNat * 256 ^ l.length + beN l := by
  have gen : ∀ (l : List UInt8) (a : Nat), l.foldl (fun v b => v * 256 + b.toNat) a = a * 256 ^ l.length + beN l := by
    intro l
    induction l with
    | nil => intro a; simp [beN]
    | cons c l ih =>
      intro a
      unfold beN
      rw [List.foldl_cons, List.foldl_cons, ih, ih (0 * 256 + c.toNat), List.length_cons, Nat.pow_succ]
      simp only [Nat.zero_mul, Nat.zero_add, Nat.add_mul]
      rw [Nat.mul_comm (256 ^ l.length) 256, ← Nat.mul_assoc]
      omega
  unfold beN
  rw [List.foldl_cons, gen]
  simp [beN]

theorem beN_put : ∀ (n m : Nat), beN (putB n (m : Int)) = m % 256 ^ n
  | 0, m => by simp [putB, beN, Nat.mod_one]
  | n + 1, m => by
    rw [putB_succ, beN_cons, beN_put n m, putB_len, byteAt_nat, Nat.pow_succ]
    have : (UInt8.ofNat (m / 256 ^ n % 256)).toNat = m / 256 ^ n % 256 := by simp
    rw [this]
    have h := Nat.mod_mul (a := 256 ^ n) (b := 256) (x := m)
    rw [h, Nat.mul_comm (256 ^ n)]
    omega

theorem put_beN : ∀ (l : List UInt8), putB l.length (beN l : Int) = l
  | [] => rfl
  | b :: l => by
    have hlt := beN_lt l.length l rfl
    have hb := b.toNat_lt
    have gen : ∀ (n : Nat) (x y : Nat), x % 256 ^ n = y % 256 ^ n → putB n (x : Int) = putB n (y : Int) := by
      intro n
      induction n with
      | zero => intro x y _; rfl
      | succ n ih =>
        intro x y h
        rw [putB_succ, putB_succ, byteAt_nat, byteAt_nat]
        have h1 : x % 256 ^ n = y % 256 ^ n := by
          have := congrArg (fun z => z % 256 ^ n) h
          rw [Nat.pow_succ] at this
          simpa [Nat.mod_mul_right_mod] using this
        have h2 : x / 256 ^ n % 256 = y / 256 ^ n % 256 := by
          have hx := Nat.mod_mul (a := 256 ^ n) (b := 256) (x := x)
          have hy := Nat.mod_mul (a := 256 ^ n) (b := 256) (x := y)
          rw [Nat.pow_succ, hx, hy, h1] at h
          have hp : 0 < 256 ^ n := Nat.pow_pos (by decide)
          exact Nat.eq_of_mul_eq_mul_left hp (by omega)
        rw [ih x y h1, h2]
    rw [List.length_cons, putB_succ, byteAt_nat, beN_cons]
    have hp : 0 < 256 ^ l.length := Nat.pow_pos (by decide)
    have h1 : (b.toNat * 256 ^ l.length + beN l) / 256 ^ l.length % 256 = b.toNat := by
      rw [Nat.mul_comm, Nat.mul_add_div hp, Nat.div_eq_of_lt hlt]
      omega
    rw [h1]
    have h2 : putB l.length ((b.toNat * 256 ^ l.length + beN l : Nat) : Int) = putB l.length (beN l : Int) := gen _ _ _ (by rw [Nat.add_mod, Nat.mul_mod_left]; simp)
    rw [h2, put_beN l]
    simp

theorem ntake_put (n : Nat) (v : Int) (h0 : 0 ≤ v) (h : v < 256 ^ n) (t : List UInt8) : ntake (putB n v ++ t) n = (v.toNat, t, 0) := by
  obtain ⟨m, rfl⟩ : ∃ m : Nat, v = (m : Int) := ⟨v.toNat, by omega⟩
  unfold ntake
  rw [if_neg (by simp [putB_len])]
  have h1 : (putB n (m : Int) ++ t).take n = putB n (m : Int) := by rw [List.take_append_of_le_length (by simp [putB_len]), List.take_of_length_le (by simp [putB_len])]
  have h2 : (putB n (m : Int) ++ t).drop n = t := by rw [List.drop_append_of_le_length (by simp [putB_len]), List.drop_of_length_le (by simp [putB_len])]; rfl
  rw [h1, h2, beN_put, Nat.mod_eq_of_lt (by exact_mod_cast h)]
  rfl

theorem put_ntake (n : Nat) (s : List UInt8) {v : Nat} {t : List UInt8} (h : ntake s n = (v, t, 0)) : s = putB n (v : Int) ++ t ∧ v < 256 ^ n := by
  have hlt := ntake_lt s n
  rw [h] at hlt
  unfold ntake at h
  split at h
  · simp at h
  · rename_i hl
    simp only [Prod.mk.injEq, and_true] at h
    obtain ⟨rfl, rfl⟩ := h
    refine ⟨?_, hlt⟩
    have hl2 : (s.take n).length = n := by rw [List.length_take]; omega
    have := put_beN (s.take n)
    rw [hl2] at this
    rw [this, List.take_append_drop]
end Go.Abs.Sig

/-! Q2 -/
namespace Go.Abs.Sig
open Go.RowKit Go.Abs
set_option linter.unusedSimpArgs false
set_option linter.unusedVariables false
set_option maxRecDepth 8000

/-! ### bits -/
theorem cast8 (x : Nat) (h : x < 256) : ((x : Int) % ((2 ^ 8 : Nat) : Int)).toNat = x := by
  have : ((2 ^ 8 : Nat) : Int) = 256 := rfl
  rw [this]; omega
theorem wrap8 (x : Nat) (h : x < 256) : IntKind.u8.wrap (x : Int) = (x : Int) := by
  simp only [IntKind.wrap, IntKind.bits, IntKind.signed]
  simp
  omega
theorem bitB_get (B : List UInt8) (i u : Nat) (hi : i < B.length) (hu : u < 8) : bitB B[i] u = bitAt B (8 * i + u) := by
  unfold bitAt
  rw [show (8 * i + u) / 8 = i by omega, show (8 * i + u) % 8 = u by omega, List.getElem?_eq_getElem hi]
  rfl
theorem bitB_test (b : UInt8) (t : Nat) (ht : t < 8) : bitB b t = b.toNat.testBit t := by
  unfold bitB
  rw [show min t 8 = t by omega]
  have h1 : (b.toNat : Int).fdiv (2 ^ t) = ((b.toNat / 2 ^ t : Nat) : Int) := by
    rw [Int.fdiv_eq_ediv_of_nonneg _ (Int.pow_nonneg (by decide)), show (2 : Int) ^ t = ((2 ^ t : Nat) : Int) by norm_cast, ← Int.natCast_ediv]
  rw [h1]
  have hb := b.toNat_lt
  have hlt : b.toNat / 2 ^ t < 256 := Nat.lt_of_le_of_lt (Nat.div_le_self _ _) hb
  have h2 : (BitVec.ofInt 8 ((b.toNat / 2 ^ t : Nat) : Int) &&& BitVec.ofInt 8 1).toNat = b.toNat / 2 ^ t % 2 := by
    rw [BitVec.toNat_and, BitVec.toNat_ofInt, BitVec.toNat_ofInt]
    rw [cast8 _ hlt, show ((1 : Int) % ((2 ^ 8 : Nat) : Int)).toNat = 1 by decide, Nat.and_one_is_mod]
  rw [h2]
  rw [wrap8 _ (by omega), Nat.testBit_eq_decide_div_mod_eq]
  rw [decide_eq_decide]
  omega

theorem orB_nat (x : UInt8) (t : Nat) (ht : t < 8) : (orB x t).toNat = x.toNat ||| 2 ^ t := by
  unfold orB
  rw [show min t 8 = t by omega]
  have hx := x.toNat_lt
  have hp : 2 ^ t ≤ 2 ^ 7 := Nat.pow_le_pow_right (by decide) (by omega)
  have h1 : IntKind.u8.wrap (1 * 2 ^ t) = ((2 ^ t : Nat) : Int) := by
    have : (1 * 2 ^ t : Int) = ((2 ^ t : Nat) : Int) := by norm_cast; simp
    rw [this, wrap8 _ (by omega)]
  rw [h1]
  have h2 : (BitVec.ofInt 8 (x.toNat : Int) ||| BitVec.ofInt 8 ((2 ^ t : Nat) : Int)).toNat = x.toNat ||| 2 ^ t := by
    rw [BitVec.toNat_or, BitVec.toNat_ofInt, BitVec.toNat_ofInt]
    rw [cast8 _ hx, cast8 _ (by omega)]
  rw [h2]
  have hor : x.toNat ||| 2 ^ t < 2 ^ 8 := Nat.or_lt_two_pow hx (by omega)
  rw [wrap8 _ hor, Int.toNat_natCast]
  show (x.toNat ||| 2 ^ t) % 256 = _
  exact Nat.mod_eq_of_lt hor

theorem bitB_or (x : UInt8) (t u : Nat) (ht : t < 8) (hu : u < 8) : bitB (orB x t) u = (decide (t = u) || bitB x u) := by
  rw [bitB_test _ _ hu, bitB_test _ _ hu, orB_nat _ _ ht, Nat.testBit_or, Nat.testBit_two_pow, Bool.or_comm]

theorem byte_ext {b c : UInt8} (h : ∀ t, t < 8 → bitB b t = bitB c t) : b = c := by
  apply UInt8.toNat_inj.1
  apply Nat.eq_of_testBit_eq
  intro i
  by_cases hi : i < 8
  · rw [← bitB_test _ _ hi, ← bitB_test _ _ hi]; exact h i hi
  · rw [Nat.testBit_lt_two_pow (Nat.lt_of_lt_of_le b.toNat_lt (Nat.pow_le_pow_right (by decide) (by omega))), Nat.testBit_lt_two_pow (Nat.lt_of_lt_of_le c.toNat_lt (Nat.pow_le_pow_right (by decide) (by omega)))]

theorem bitAt_set (bs : List UInt8) (i j : Nat) (hi : i / 8 < bs.length) : bitAt (setB bs i) j = (decide (i = j) || bitAt bs j) := by
  unfold bitAt setB
  by_cases hij : i / 8 = j / 8
  · rw [← hij, List.getElem?_set_self hi, Option.getD_some, bitB_or _ _ _ (by omega) (by omega)]
    congr 1
    rw [decide_eq_decide]
    omega
  · rw [List.getElem?_set_ne hij]
    have : ¬ i = j := fun h => hij (by rw [h])
    simp [this]

theorem bitsGo_at : ∀ (l : List Bool) (i : Nat) (bs : List UInt8) (j : Nat), i + l.length ≤ 8 * bs.length → bitAt (bitsGo l i bs) j = (bitAt bs j || (decide (i ≤ j) && (l[j - i]?).getD false))
  | [], i, bs, j, _ => by simp [bitsGo]
  | b :: l, i, bs, j, h => by
    simp only [List.length_cons] at h
    rw [bitsGo, bitsGo_at l (i + 1) _ j (by
      have : (if b then setB bs i else bs).length = bs.length := by cases b <;> simp [setB_len]
      omega)]
    have hset : bitAt (if b then setB bs i else bs) j = ((b && decide (i = j)) || bitAt bs j) := by
      cases b
      · simp
      · simp [bitAt_set bs i j (by omega)]
    rw [hset]
    by_cases hij : i = j
    · subst hij
      have : ¬ i + 1 ≤ i := by omega
      simp [this]
      cases b <;> cases bitAt bs i <;> rfl
    · by_cases hle : i ≤ j
      · have h1 : i + 1 ≤ j := by omega
        have h2 : j - i = (j - (i + 1)) + 1 := by omega
        rw [h2]
        simp [hij, hle, h1]
      · have h1 : ¬ i + 1 ≤ j := by omega
        simp [hij, hle, h1]

theorem bitsB_at (l : List Bool) (j : Nat) : bitAt (bitsB l) j = (l[j]?).getD false := by
  unfold bitsB
  rw [bitsGo_at _ _ _ _ (by rw [List.length_replicate]; omega)]
  have : bitAt (List.replicate ((l.length + 7) / 8) 0) j = false := by
    unfold bitAt
    rw [bitB_test _ _ (by omega)]
    have h0 : ((List.replicate ((l.length + 7) / 8) (0 : UInt8))[j / 8]?).getD 0 = 0 := by
      rw [List.getElem?_replicate]
      split <;> rfl
    rw [h0]
    simp
  simp [this]

theorem bitAt_app (A t : List UInt8) (j : Nat) (h : j < 8 * A.length) : bitAt (A ++ t) j = bitAt A j := by
  unfold bitAt
  rw [List.getElem?_append_left (by omega)]

theorem tbits_bits (l : List Bool) (t : List UInt8) : tbits (bitsB l ++ t) l.length = (l, t, 0) := by
  have hb := bitsB_len l
  unfold tbits
  have hm : manyB l.length = (bitsB l).length := by rw [hb]; rfl
  rw [hm]
  rw [if_neg (by simp)]
  have hat : ∀ j, j < 8 * (bitsB l).length → bitAt (bitsB l ++ t) j = (l[j]?).getD false := fun j hj => by rw [bitAt_app _ _ _ hj, bitsB_at]
  rw [if_neg (by
    rw [no_bit (fun i h1 h2 => by rw [hat i h2, List.getElem?_eq_none h1]; rfl)]; simp)]
  have h1 : (List.range l.length).map (bitAt (bitsB l ++ t)) = l := by
    refine List.ext_getElem? fun i => ?_
    rw [List.getElem?_map]
    by_cases hi : i < l.length
    · rw [List.getElem?_range hi, Option.map_some, hat i (by rw [hb]; omega)]
      simp [hi]
    · rw [List.getElem?_eq_none (by simp; omega), List.getElem?_eq_none (by omega)]; rfl
  rw [h1, List.drop_left']
  rfl

theorem bits_tbits (s : List UInt8) (n : Nat) {l : List Bool} {t : List UInt8} (h : tbits s n = (l, t, 0)) : s = bitsB l ++ t ∧ l.length = n := by
  unfold tbits at h
  split at h
  · simp at h
  · rename_i hl
    split at h
    · simp at h
    · rename_i hany
      simp only [Prod.mk.injEq, and_true] at h
      obtain ⟨rfl, rfl⟩ := h
      have hlen : ((List.range n).map (bitAt s)).length = n := by simp
      refine ⟨?_, hlen⟩
      have hb := bitsB_len ((List.range n).map (bitAt s))
      rw [hlen] at hb
      have hA : s.take (manyB n) = bitsB ((List.range n).map (bitAt s)) := by
        refine List.ext_getElem? fun i => ?_
        by_cases hi : i < manyB n
        · have hi2 : i < (bitsB ((List.range n).map (bitAt s))).length := by rw [hb]; exact hi
          rw [List.getElem?_take_of_lt hi, List.getElem?_eq_getElem (show i < s.length by omega), List.getElem?_eq_getElem hi2]
          congr 1
          refine byte_ext fun u hu => ?_
          rw [bitB_get s i u (by omega) hu, bitB_get _ i u hi2 hu, bitsB_at]
          by_cases hn : 8 * i + u < n
          · rw [List.getElem?_map, List.getElem?_range hn]; rfl
          · rw [List.getElem?_eq_none (by simp; omega)]
            have : ¬ ((List.range (8 * manyB n)).drop n).any (bitAt s) = true := hany
            cases hx : bitAt s (8 * i + u) with
            | false => rfl
            | true => exact absurd (any_bit (by omega) (by omega) hx) this
        · rw [List.getElem?_eq_none (by rw [List.length_take]; omega), List.getElem?_eq_none (by rw [hb]; unfold manyB at hi; omega)]
      rw [← hA, List.take_append_drop]
end Go.Abs.Sig

/-! Q3 -/
namespace Go.Abs.Sig
open Go.RowKit Go.Abs
set_option linter.unusedSimpArgs false
set_option linter.unusedVariables false
set_option maxRecDepth 8000

/-! ### values -/
theorem ntake_app {s t r : List UInt8} {n v : Nat} (h : ntake s n = (v, r, 0)) : ntake (s ++ t) n = (v, r ++ t, 0) := by
  unfold ntake at h ⊢
  split at h
  · simp at h
  · rename_i hl
    simp only [Prod.mk.injEq, and_true] at h
    obtain ⟨rfl, rfl⟩ := h
    rw [if_neg (by simp; omega), List.take_append_of_le_length (by omega), List.drop_append_of_le_length (by omega)]
theorem skipF_app {s t a b : List UInt8} {n : Nat} (h : skipF s n = (a, b, 0)) : skipF (s ++ t) n = (a, b ++ t, 0) := by
  unfold skipF at h ⊢
  split at h
  · simp at h
  · rename_i hl
    simp only [Prod.mk.injEq, and_true] at h
    obtain ⟨rfl, rfl⟩ := h
    rw [if_neg (by simp; omega), List.take_append_of_le_length (by omega), List.drop_append_of_le_length (by omega)]
theorem skipF_eq {s a b : List UInt8} {n : Nat} (h : skipF s n = (a, b, 0)) : s = a ++ b ∧ a.length = n := by
  unfold skipF at h
  split at h
  · simp at h
  · rename_i hl
    simp only [Prod.mk.injEq, and_true] at h
    obtain ⟨rfl, rfl⟩ := h
    exact ⟨(List.take_append_drop _ _).symm, by rw [List.length_take]; omega⟩
theorem skipF_mk (a b : List UInt8) : skipF (a ++ b) a.length = (a, b, 0) := by
  unfold skipF
  rw [if_neg (by simp)]
  simp

theorem withF_app {dep : Int} {one : List UInt8 → List UInt8 × Int} {s t r : List UInt8} (h : withF dep one s = (r, 0)) : withF dep one (s ++ t) = (r ++ t, 0) ∧ ∃ a, s = a ++ r ∧ a.length ≤ 8589934592 := by
  unfold withF at h
  obtain ⟨v, r1, e1⟩ : ∃ v r1, ∃ e1, ntake s 4 = (v, r1, e1) := ⟨_, _, _, rfl⟩
  obtain ⟨v, r1, e1, hn⟩ : ∃ v r1 e1, ntake s 4 = (v, r1, e1) := ⟨_, _, _, rfl⟩
  rw [hn] at h
  simp only at h
  split at h
  · rename_i hne; simp at h; exact absurd h.2 hne
  · rename_i he
    obtain rfl : e1 = 0 := by simpa using he
    obtain ⟨a, b, e2, hk⟩ : ∃ a b e2, skipF r1 v = (a, b, e2) := ⟨_, _, _, rfl⟩
    rw [hk] at h
    simp only at h
    split at h
    · rename_i hne; simp at h; exact absurd h.2 hne
    · rename_i he2
      obtain rfl : e2 = 0 := by simpa using he2
      split at h
      · simp at h
      · rename_i hd
        simp only [Prod.mk.injEq] at h
        obtain ⟨rfl, hi⟩ := h
        refine ⟨?_, ?_⟩
        · unfold withF
          rw [ntake_app hn]
          simp only
          rw [skipF_app hk]
          simp only
          rw [if_neg (by simp), if_neg (by simp), if_neg hd, hi]
        · obtain ⟨h1, _⟩ := put_ntake 4 s hn
          obtain ⟨h2, h3⟩ := skipF_eq hk
          obtain ⟨_, h4⟩ := put_ntake 4 s hn
          exact ⟨putB 4 (v : Int) ++ a, by rw [h1, h2, List.append_assoc], by simp [putB_len, h3]; omega⟩

theorem tblF_app {s t : List UInt8} (h : tbBad s = false) : tblF (s ++ t) = (s, t, 0) ∧ s ≠ [] ∧ s.length ≤ 8589934592 := by
  unfold tbBad bsel at h
  obtain ⟨a, r, e, ht⟩ : ∃ a r e, tblF s = (a, r, e) := ⟨_, _, _, rfl⟩
  rw [ht] at h
  simp only at h
  have he : e = 0 := by
    by_cases he : e = 0
    · exact he
    · rw [decide_eq_true he] at h; simp at h
  subst he
  rw [decide_eq_false (by simp)] at h
  simp only at h
  have hr : r = [] := by
    by_cases hr : r = []
    · exact hr
    · rw [decide_eq_true hr] at h; simp at h
  subst hr
  rw [decide_eq_false (by simp)] at h
  simp only [decide_eq_false_iff_not] at h
  unfold tblF takenF at ht ⊢
  split at ht
  · rename_i hne; simp at ht; exact absurd ht.2 hne
  · rename_i h0
    have h0' : (tabF s).2 = 0 := by simpa using h0
    simp only [Prod.mk.injEq, and_true] at ht
    have hw : withF 1 (fldF (valF 31)) s = ([], 0) := by
      show tabF s = _
      rw [← ht.2, ← h0']
    obtain ⟨h1, a', ha', hal⟩ := withF_app (t := t) hw
    have h1' : tabF (s ++ t) = (t, 0) := h1
    rw [h1']
    simp only
    rw [if_neg (by simp)]
    refine ⟨?_, ?_, ?_⟩
    · simp
    · rw [← ht.1, ht.2] at h
      simpa using h
    · rw [ha']; simpa using hal

theorem tblF_eq {s a t : List UInt8} (h : tblF s = (a, t, 0)) : s = a ++ t := by
  unfold tblF takenF at h
  split at h
  · rename_i hne; simp at h; exact absurd h.2.2 hne
  · rename_i h0
    have h0' : (tabF s).2 = 0 := by simpa using h0
    simp only [Prod.mk.injEq, and_true] at h
    obtain ⟨h1, rfl⟩ := h
    have hw : withF 1 (fldF (valF 31)) s = ((tabF s).1, 0) := by
      show tabF s = _
      rw [← h0']
    obtain ⟨_, b, hb, _⟩ := withF_app (t := []) hw
    have hl : s.length = b.length + (tabF s).1.length := by
      have := congrArg List.length hb
      simpa using this
    rw [← h1]
    have hbt : s.take (s.length - (tabF s).1.length) = b := by
      have : s.length - (tabF s).1.length = b.length := by omega
      rw [this]
      exact (congrArg (List.take b.length) hb).trans (by simp)
    rw [hbt]
    exact hb

/-- A number that there is. -/
def OkN (v : Val') : Prop := 0 ≤ v.1 ∧ v.1 ≤ 18446744073709551615
theorem wr_zero {n : Nat} (hn : n = 1 ∨ n = 2 ∨ n = 4 ∨ n = 8) {v : Val'} (hv : OkN v) (h : wr (n : Int) v = 0) : v.1 < 256 ^ n ∧ v.2 = [] := by
  unfold wr at h
  split at h
  · cases h
  · rename_i h1
    split at h
    · cases h
    · rename_i h2
      refine ⟨?_, by simpa using h2⟩
      obtain ⟨h3, h4⟩ := hv
      obtain ⟨m, hm⟩ : ∃ m : Nat, v.1 = (m : Int) := ⟨v.1.toNat, by omega⟩
      rw [hm] at h1 h4 ⊢
      rcases hn with rfl | rfl | rfl | rfl
      · have h5 : ¬ ((m : Int).fdiv (2 ^ 8) ≠ 0) := by simpa using h1
        rw [Int.fdiv_eq_ediv_of_nonneg _ (by decide)] at h5
        omega
      · have h5 : ¬ ((m : Int).fdiv (2 ^ 16) ≠ 0) := by simpa using h1
        rw [Int.fdiv_eq_ediv_of_nonneg _ (by decide)] at h5
        omega
      · have h5 : ¬ ((m : Int).fdiv (2 ^ 32) ≠ 0) := by simpa using h1
        rw [Int.fdiv_eq_ediv_of_nonneg _ (by decide)] at h5
        omega
      · omega

theorem notBig {n : Nat} (hn : n = 1 ∨ n = 2 ∨ n = 4 ∨ n = 8) {v : Int} (h0 : 0 ≤ v) (h : v < 256 ^ n) : tooBig n v = false := by
  obtain ⟨m, rfl⟩ : ∃ m : Nat, v = (m : Int) := ⟨v.toNat, by omega⟩
  unfold tooBig bsel
  rcases hn with rfl | rfl | rfl | rfl
  · rw [show decide (((1 : Nat) : Int) < 8) = true from rfl]
    simp only [decide_eq_false_iff_not, ne_eq, Decidable.not_not]
    rw [Int.fdiv_eq_ediv_of_nonneg _ (by decide)]; omega
  · rw [show decide (((2 : Nat) : Int) < 8) = true from rfl]
    simp only [decide_eq_false_iff_not, ne_eq, Decidable.not_not]
    rw [Int.fdiv_eq_ediv_of_nonneg _ (by decide)]; omega
  · rw [show decide (((4 : Nat) : Int) < 8) = true from rfl]
    simp only [decide_eq_false_iff_not, ne_eq, Decidable.not_not]
    rw [Int.fdiv_eq_ediv_of_nonneg _ (by decide)]; omega
  · rw [show decide (((8 : Nat) : Int) < 8) = false from rfl]
end Go.Abs.Sig

/-! Q4 -/
namespace Go.Abs.Sig
open Go.RowKit Go.Abs
set_option linter.unusedSimpArgs false
set_option linter.unusedVariables false
set_option maxRecDepth 8000

theorem nput_ok {n : Nat} (hn : n = 1 ∨ n = 2 ∨ n = 4 ∨ n = 8) {v : Int} (h0 : 0 ≤ v) (h : v < 256 ^ n) : (nput n v).1 = putB n v := by
  unfold nput
  rw [notBig hn h0 h]; rfl

theorem layS_ok {n : Nat} (hn : n = 1 ∨ n = 2 ∨ n = 4 ∨ n = 8) {s : List UInt8} (h : s.length < 256 ^ n) : (layS n s).1 = putB n (s.length : Int) ++ s := by
  unfold layS
  rw [notBig hn (by omega) (by exact_mod_cast h)]; rfl

theorem ttake_lay {n : Nat} (s t : List UInt8) (h : s.length < 256 ^ n) : ttake n (putB n (s.length : Int) ++ s ++ t) = (s, t, 0) := by
  unfold ttake
  rw [List.append_assoc, ntake_put n _ (by omega) (by exact_mod_cast h)]
  simp only
  rw [if_neg (by simp), Int.toNat_natCast, skipF_mk]

theorem lay_ttake {n : Nat} {s a t : List UInt8} (h : ttake n s = (a, t, 0)) : s = putB n (a.length : Int) ++ a ++ t ∧ a.length < 256 ^ n := by
  unfold ttake at h
  split at h
  · rename_i hne; simp at h; exact absurd h.2.2 hne
  · rename_i h0
    obtain ⟨v, r, e, hn⟩ : ∃ v r e, ntake s n = (v, r, e) := ⟨_, _, _, rfl⟩
    rw [hn] at h h0
    simp only at h h0
    obtain rfl : e = 0 := by simpa using h0
    obtain ⟨h1, h2⟩ := put_ntake n s hn
    obtain ⟨h3, h4⟩ := skipF_eq h
    rw [h4]
    exact ⟨by rw [h1, h3, List.append_assoc], h2⟩

/-- A letter that there is. -/
def IsLet (c : UInt8) : Prop := c = 111 ∨ c = 115 ∨ c = 108 ∨ c = 113 ∨ c = 98 ∨ c = 83 ∨ c = 76 ∨ c = 84

theorem vf111 (s : List UInt8) : valueF 111 s = ((((ntake s 1).1 : Int), []), (ntake s 1).2) := rfl
theorem vf115 (s : List UInt8) : valueF 115 s = ((((ntake s 2).1 : Int), []), (ntake s 2).2) := rfl
theorem vf108 (s : List UInt8) : valueF 108 s = ((((ntake s 4).1 : Int), []), (ntake s 4).2) := rfl
theorem vf113 (s : List UInt8) : valueF 113 s = ((((ntake s 8).1 : Int), []), (ntake s 8).2) := rfl
theorem vf83 (s : List UInt8) : valueF 83 s = ((0, (ttake 1 s).1), (ttake 1 s).2) := rfl
theorem vf76 (s : List UInt8) : valueF 76 s = ((0, (ttake 4 s).1), (ttake 4 s).2) := rfl
theorem vf84 (s : List UInt8) : valueF 84 s = ((0, (tblF s).1), (tblF s).2) := rfl

theorem wt_zeroN {n : Nat} {v : Val'} (h : wt (n : Int) v = 0) : v.2.length ≤ n ∧ v.1 = 0 := by
  unfold wt at h
  split at h
  · cases h
  · rename_i h1
    split at h
    · cases h
    · rename_i h2
      refine ⟨?_, by simpa using h2⟩
      have : ¬ ((v.2.length : Int) > (n : Int)) := by simpa using h1
      omega

theorem val_take {c : UInt8} (hl : IsLet c) (h98 : c ≠ 98) {v : Val'} (hv : OkN v) (h : rl tbv c v = 0) (t : List UInt8) : valueF c (layV c v ++ t) = (v, t, 0) := by
  rcases hl with rfl | rfl | rfl | rfl | rfl | rfl | rfl | rfl
  · have h : wr ((1 : Nat) : Int) v = 0 := h
    obtain ⟨h1, h2⟩ := wr_zero (by decide) hv h
    obtain ⟨n, s⟩ := v
    simp only at h1 h2
    subst h2
    show valueF 111 ((nput 1 n).1 ++ t) = _
    rw [nput_ok (by decide) hv.1 h1, vf111, ntake_put 1 n hv.1 h1]
    simp only [Int.toNat_of_nonneg hv.1]
  · have h : wr ((2 : Nat) : Int) v = 0 := h
    obtain ⟨h1, h2⟩ := wr_zero (by decide) hv h
    obtain ⟨n, s⟩ := v
    simp only at h1 h2
    subst h2
    show valueF 115 ((nput 2 n).1 ++ t) = _
    rw [nput_ok (by decide) hv.1 h1, vf115, ntake_put 2 n hv.1 h1]
    simp only [Int.toNat_of_nonneg hv.1]
  · have h : wr ((4 : Nat) : Int) v = 0 := h
    obtain ⟨h1, h2⟩ := wr_zero (by decide) hv h
    obtain ⟨n, s⟩ := v
    simp only at h1 h2
    subst h2
    show valueF 108 ((nput 4 n).1 ++ t) = _
    rw [nput_ok (by decide) hv.1 h1, vf108, ntake_put 4 n hv.1 h1]
    simp only [Int.toNat_of_nonneg hv.1]
  · have h : wr ((8 : Nat) : Int) v = 0 := h
    obtain ⟨h1, h2⟩ := wr_zero (by decide) hv h
    obtain ⟨n, s⟩ := v
    simp only at h1 h2
    subst h2
    show valueF 113 ((nput 8 n).1 ++ t) = _
    rw [nput_ok (by decide) hv.1 h1, vf113, ntake_put 8 n hv.1 h1]
    simp only [Int.toNat_of_nonneg hv.1]
  · exact absurd rfl h98
  · have h : wt ((255 : Nat) : Int) v = 0 := h
    obtain ⟨h1, h2⟩ := wt_zeroN h
    obtain ⟨n, s⟩ := v
    simp only at h1 h2
    subst h2
    show valueF 83 ((layS 1 s).1 ++ t) = _
    rw [layS_ok (by decide) (by omega), vf83, ttake_lay s t (by omega)]
  · have h : wt ((131072 : Nat) : Int) v = 0 := h
    obtain ⟨h1, h2⟩ := wt_zeroN h
    obtain ⟨n, s⟩ := v
    simp only at h1 h2
    subst h2
    show valueF 76 ((layS 4 s).1 ++ t) = _
    rw [layS_ok (by decide) (by omega), vf76, ttake_lay s t (by omega)]
  · have h : tbv v = 0 := h
    obtain ⟨n, s⟩ := v
    unfold tbv at h
    split at h
    · cases h
    · rename_i h0
      split at h
      · cases h
      · rename_i hb
        have hn : n = 0 := by simpa using h0
        subst hn
        obtain ⟨h1, _⟩ := tblF_app (t := t) (by simpa using hb)
        show valueF 84 (s ++ t) = _
        rw [vf84, h1]

theorem take_val {c : UInt8} (hl : IsLet c) (h98 : c ≠ 98) {v : Val'} {s t : List UInt8} (h : valueF c s = (v, t, 0)) : s = layV c v ++ t ∧ OkN v := by
  rcases hl with rfl | rfl | rfl | rfl | rfl | rfl | rfl | rfl
  · rw [vf111] at h
    obtain ⟨n, r, e, hn⟩ : ∃ n r e, ntake s 1 = (n, r, e) := ⟨_, _, _, rfl⟩
    rw [hn] at h
    simp only [Prod.mk.injEq] at h
    obtain ⟨rfl, rfl, rfl⟩ := h
    obtain ⟨h1, h2⟩ := put_ntake _ s hn
    refine ⟨?_, by simp, by simp only; omega⟩
    rw [h1]
    congr 1 <;> exact (nput_ok (by decide) (by omega) (by exact_mod_cast h2)).symm
  · rw [vf115] at h
    obtain ⟨n, r, e, hn⟩ : ∃ n r e, ntake s 2 = (n, r, e) := ⟨_, _, _, rfl⟩
    rw [hn] at h
    simp only [Prod.mk.injEq] at h
    obtain ⟨rfl, rfl, rfl⟩ := h
    obtain ⟨h1, h2⟩ := put_ntake _ s hn
    refine ⟨?_, by simp, by simp only; omega⟩
    rw [h1]
    congr 1 <;> exact (nput_ok (by decide) (by omega) (by exact_mod_cast h2)).symm
  · rw [vf108] at h
    obtain ⟨n, r, e, hn⟩ : ∃ n r e, ntake s 4 = (n, r, e) := ⟨_, _, _, rfl⟩
    rw [hn] at h
    simp only [Prod.mk.injEq] at h
    obtain ⟨rfl, rfl, rfl⟩ := h
    obtain ⟨h1, h2⟩ := put_ntake _ s hn
    refine ⟨?_, by simp, by simp only; omega⟩
    rw [h1]
    congr 1 <;> exact (nput_ok (by decide) (by omega) (by exact_mod_cast h2)).symm
  · rw [vf113] at h
    obtain ⟨n, r, e, hn⟩ : ∃ n r e, ntake s 8 = (n, r, e) := ⟨_, _, _, rfl⟩
    rw [hn] at h
    simp only [Prod.mk.injEq] at h
    obtain ⟨rfl, rfl, rfl⟩ := h
    obtain ⟨h1, h2⟩ := put_ntake _ s hn
    refine ⟨?_, by simp, by simp only; omega⟩
    rw [h1]
    congr 1 <;> exact (nput_ok (by decide) (by omega) (by exact_mod_cast h2)).symm
  · exact absurd rfl h98
  · rw [vf83] at h
    obtain ⟨a, r, e, hn⟩ : ∃ a r e, ttake 1 s = (a, r, e) := ⟨_, _, _, rfl⟩
    rw [hn] at h
    simp only [Prod.mk.injEq] at h
    obtain ⟨rfl, rfl, rfl⟩ := h
    obtain ⟨h1, h2⟩ := lay_ttake hn
    refine ⟨?_, by simp, by simp⟩
    rw [h1]
    congr 1
    exact (layS_ok (by decide) h2).symm
  · rw [vf76] at h
    obtain ⟨a, r, e, hn⟩ : ∃ a r e, ttake 4 s = (a, r, e) := ⟨_, _, _, rfl⟩
    rw [hn] at h
    simp only [Prod.mk.injEq] at h
    obtain ⟨rfl, rfl, rfl⟩ := h
    obtain ⟨h1, h2⟩ := lay_ttake hn
    refine ⟨?_, by simp, by simp⟩
    rw [h1]
    congr 1
    exact (layS_ok (by decide) h2).symm
  · rw [vf84] at h
    obtain ⟨a, r, e, hn⟩ : ∃ a r e, tblF s = (a, r, e) := ⟨_, _, _, rfl⟩
    rw [hn] at h
    simp only [Prod.mk.injEq] at h
    obtain ⟨rfl, rfl, rfl⟩ := h
    exact ⟨tblF_eq hn, by simp, by simp⟩
end Go.Abs.Sig

/-! Q5 -/
namespace Go.Abs.Sig
open Go.RowKit Go.Abs
set_option linter.unusedSimpArgs false
set_option linter.unusedVariables false
set_option maxRecDepth 8000

/-- What is laid behind the head. -/
def goE : List UInt8 → List Val' → List Bool → List UInt8
  | c :: s, v :: l, bits => if c = 98 then goE s l (bits ++ [decide (v.1 = 1)]) else bitsB bits ++ (layV c v ++ goE s l [])
  | _, _, bits => bitsB bits
theorem bitsB_nil : bitsB [] = [] := rfl

theorem goB_goE : ∀ (s : List UInt8) (l : List Val') (out : List UInt8) (bits : List Bool), goB s l out bits = out ++ goE s l bits
  | c :: s, v :: l, out, bits => by
    unfold goB goE
    split
    · exact goB_goE s l out _
    · rw [goB_goE s l _ _]
      simp [List.append_assoc]
  | [], l, out, bits => by unfold goB goE; rfl
  | _ :: _, [], out, bits => by unfold goB goE; rfl

/-- Bits that stand ahead of a letter that is none, or of the end. -/
theorem goE_flush (s : List UInt8) (l : List Val') (bits : List Bool) (h : ∀ c, s[0]? = some c → c ≠ 98) : goE s l bits = bitsB bits ++ goE s l [] := by
  cases s with
  | nil => unfold goE; simp [bitsB_nil]
  | cons c s =>
    cases l with
    | nil => unfold goE; simp [bitsB_nil]
    | cons v l =>
      have hc : c ≠ 98 := h c rfl
      unfold goE
      rw [if_neg hc, if_neg hc, bitsB_nil, List.nil_append]

/-- A run of bits. -/
theorem goE_run : ∀ (k : Nat) (s : List UInt8) (l : List Val') (bits : List Bool), k ≤ l.length → (∀ j, j < k → s[j]? = some 98) → goE s l bits = goE (s.drop k) (l.drop k) (bits ++ (l.take k).map fun v => decide (v.1 = 1))
  | 0, s, l, bits, _, _ => by simp
  | k + 1, s, l, bits, hk, h => by
    cases s with
    | nil => simpa using h 0 (by omega)
    | cons c s =>
      have hc : c = 98 := by simpa using h 0 (by omega)
      cases l with
      | nil => simp at hk
      | cons v l =>
        rw [goE, if_pos hc, goE_run k s l _ (by simpa using hk) (fun j hj => by simpa using h (j + 1) (by omega))]
        simp [List.append_assoc]

/-- Right values, letter by letter. -/
def Fits (s : List UInt8) (l : List Val') : Prop := s.length = l.length ∧ (∀ c ∈ s, IsLet c) ∧ (∀ v ∈ l, OkN v) ∧ ∀ (j : Nat) (c : UInt8) (v : Val'), s[j]? = some c → l[j]? = some v → rl tbv c v = 0
theorem Fits.drop {s : List UInt8} {l : List Val'} (h : Fits s l) (k : Nat) : Fits (s.drop k) (l.drop k) :=
  ⟨by simp [h.1], fun c hc => h.2.1 c (List.mem_of_mem_drop hc), fun v hv => h.2.2.1 v (List.mem_of_mem_drop hv), fun j c v h1 h2 => h.2.2.2 (k + j) c v (by rwa [List.getElem?_drop] at h1) (by rwa [List.getElem?_drop] at h2)⟩

theorem bit_val {v : Val'} (hv : OkN v) (h : rl tbv 98 v = 0) : bitVal (decide (v.1 = 1)) = v := by
  have h : wr 0 v = 0 := h
  obtain ⟨n, s⟩ := v
  unfold wr at h
  split at h
  · cases h
  · rename_i h1
    split at h
    · cases h
    · rename_i h2
      have h3 : s = [] := by simpa using h2
      have h4 : ¬ (1 < n) := by simpa using h1
      have h5 := hv.1
      simp only at h5
      subst h3
      unfold bitVal
      rcases (by omega : n = 0 ∨ n = 1) with rfl | rfl <;> simp

theorem take_enc : ∀ (f : Nat) (s : List UInt8) (l : List Val') (t : List UInt8) (args : List Val'), s.length ≤ f → Fits s l → takeL f s (goE s l [] ++ t) args = (args ++ l, t, 0)
  | f, [], l, t, args, _, hf => by
    obtain rfl : l = [] := List.eq_nil_of_length_eq_zero (by simpa using hf.1.symm)
    unfold takeL goE
    simp [bitsB_nil]
  | 0, c :: s, l, t, args, h, _ => by simp at h
  | f + 1, c :: s, [], t, args, _, hf => by have := hf.1; simp at this
  | f + 1, c :: s, v :: l, t, args, h, hf => by
    rw [takeL]
    by_cases hr : runB (c :: s) > 0
    · rw [if_pos hr]
      have hle := runB_le (c :: s)
      have hlen : (c :: s).length = (v :: l).length := hf.1
      have hrun := goE_run (runB (c :: s)) (c :: s) (v :: l) [] (by omega) (fun j hj => runB_all _ j hj)
      have hstop : ∀ x, ((c :: s).drop (runB (c :: s)))[0]? = some x → x ≠ 98 := fun x hx => runB_stop (c :: s) x (by rwa [List.getElem?_drop, Nat.add_zero] at hx)
      rw [goE_flush _ _ _ hstop] at hrun
      generalize hk : runB (c :: s) = k at *
      generalize hs' : c :: s = s' at *
      generalize hl' : v :: l = l' at *
      have hbl : ([] ++ (l'.take k).map fun (v : Val') => decide (v.1 = 1)).length = k := by simp; omega
      have htb := tbits_bits ([] ++ (l'.take k).map fun (v : Val') => decide (v.1 = 1)) (goE (s'.drop k) (l'.drop k) [] ++ t)
      rw [hbl, ← List.append_assoc, ← hrun] at htb
      rw [htb]
      simp only
      rw [if_neg (by simp)]
      have hbits : (([] ++ (l'.take k).map fun (v : Val') => decide (v.1 = 1)).map bitVal) = l'.take k := by
        rw [List.nil_append, List.map_map]
        refine (List.map_congr_left (g := id) fun x hx => ?_).trans (List.map_id _)
        obtain ⟨j, hj⟩ := List.mem_iff_getElem?.1 hx
        have hjk : j < k := by
          have := (List.getElem?_eq_some_iff.1 hj).1
          simp at this
          omega
        rw [List.getElem?_take_of_lt hjk] at hj
        refine bit_val (hf.2.2.1 x (List.mem_of_getElem? hj)) (hf.2.2.2 j 98 x ?_ hj)
        have := runB_all s' j (by omega)
        exact this
      rw [hbits, take_enc f (s'.drop k) (l'.drop k) t _ (by simp; omega) (hf.drop k), List.append_assoc, List.take_append_drop]
    · rw [if_neg hr]
      have hc : c ≠ 98 := fun hc => hr (by unfold runB; rw [if_pos hc]; omega)
      have hv := val_take (hf.2.1 c (by simp)) hc (hf.2.2.1 v (by simp)) (hf.2.2.2 0 c v rfl rfl) (goE s l [] ++ t)
      rw [goE, if_neg hc, bitsB_nil, List.nil_append, List.append_assoc, hv]
      simp only
      rw [if_neg (by simp)]
      rw [take_enc f s l t _ (by simpa using h) (hf.drop 1)]
      simp

theorem enc_take : ∀ (f : Nat) (s rest : List UInt8) (args : List Val') (l : List Val') (t : List UInt8), s.length ≤ f → (∀ c ∈ s, IsLet c) → takeL f s rest args = (l, t, 0) →
    ∃ l', l = args ++ l' ∧ l'.length = s.length ∧ rest = goE s l' [] ++ t ∧ ∀ v ∈ l', OkN v
  | f, [], rest, args, l, t, _, _, h => by
    unfold takeL at h
    simp only [Prod.mk.injEq, and_true] at h
    obtain ⟨rfl, rfl⟩ := h
    exact ⟨[], by simp, rfl, by simp [goE, bitsB_nil], fun v hv => by cases hv⟩
  | 0, c :: s, rest, args, l, t, h, _, _ => by simp at h
  | f + 1, c :: s, rest, args, l, t, hl, hlet, h => by
    rw [takeL] at h
    by_cases hr : runB (c :: s) > 0
    · rw [if_pos hr] at h
      have hle := runB_le (c :: s)
      obtain ⟨bits, left, e, htb⟩ : ∃ b r e, tbits rest (runB (c :: s)) = (b, r, e) := ⟨_, _, _, rfl⟩
      rw [htb] at h
      simp only at h
      split at h
      · rename_i hne; simp only [Prod.mk.injEq] at h; exact absurd h.2.2 hne
      · rename_i he
        obtain rfl : e = 0 := by simpa using he
        obtain ⟨h1, h2⟩ := bits_tbits _ _ htb
        obtain ⟨l', g1, g2, g3, g4⟩ := enc_take f _ left _ l t (by simp at hl ⊢; omega) (fun x hx => hlet x (List.mem_of_mem_drop hx)) h
        refine ⟨bits.map bitVal ++ l', by rw [g1, List.append_assoc], by simp at g2 hle ⊢; omega, ?_, fun v hv => ?_⟩
        · have hrun := goE_run (runB (c :: s)) (c :: s) (bits.map bitVal ++ l') [] (by simp; omega) (fun j hj => runB_all _ j hj)
          have hd : (bits.map bitVal ++ l').drop (runB (c :: s)) = l' := by rw [← h2]; simp
          have ht : ((bits.map bitVal ++ l').take (runB (c :: s))).map (fun v => decide (v.1 = 1)) = bits := by
            have : (bits.map bitVal ++ l').take (runB (c :: s)) = bits.map bitVal := by rw [← h2]; simp
            rw [this, List.map_map]
            refine (List.map_congr_left (g := id) fun x _ => ?_).trans (List.map_id _)
            cases x <;> rfl
          rw [hd, ht, List.nil_append, goE_flush ((c :: s).drop (runB (c :: s))) l' bits (fun x hx => runB_stop (c :: s) x (by rwa [List.getElem?_drop, Nat.add_zero] at hx))] at hrun
          rw [hrun, h1, g3, List.append_assoc]
        · rcases List.mem_append.1 hv with hv | hv
          · obtain ⟨x, _, rfl⟩ := List.mem_map.1 hv
            cases x <;> exact ⟨by decide, by decide⟩
          · exact g4 v hv
    · rw [if_neg hr] at h
      have hc : c ≠ 98 := fun hc => hr (by unfold runB; rw [if_pos hc]; omega)
      obtain ⟨v, left, e, hv⟩ : ∃ b r e, valueF c rest = (b, r, e) := ⟨_, _, _, rfl⟩
      rw [hv] at h
      simp only at h
      split at h
      · rename_i hne; simp only [Prod.mk.injEq] at h; exact absurd h.2.2 hne
      · rename_i he
        obtain rfl : e = 0 := by simpa using he
        obtain ⟨h1, h2⟩ := take_val (hlet c (by simp)) hc hv
        obtain ⟨l', g1, g2, g3, g4⟩ := enc_take f s left _ l t (by simpa using hl) (fun x hx => hlet x (by simp [hx])) h
        refine ⟨v :: l', by rw [g1]; simp, by simp [g2], ?_, fun x hx => ?_⟩
        · rw [goE, if_neg hc, bitsB_nil, List.nil_append, h1, g3]
          simp
        · rcases List.mem_cons.1 hx with rfl | hx
          · exact h2
          · exact g4 x hx
end Go.Abs.Sig

/-! Q6 -/
namespace Go.Abs.Sig
open Go.RowKit Go.Abs
set_option linter.unusedSimpArgs false
set_option linter.unusedVariables false
set_option maxRecDepth 8000

theorem at_range {c i : Int} (h : isAt c i = true) : (0 ≤ c ∧ c < 65536) ∧ 0 ≤ i ∧ i < 65536 := by
  have h1 : (tab.all fun r => decide (0 ≤ r.1) && decide (r.1 < 65536) && decide (0 ≤ r.2.1) && decide (r.2.1 < 65536)) = true := by decide
  have h2 := List.all_eq_true.1 h1 _ (at_some h)
  simp only [Bool.and_eq_true, decide_eq_true_eq] at h2
  have h3 : pAt c i (rowAt c i) = true := by
    unfold isAt at h
    unfold rowAt
    obtain ⟨r, hr⟩ := Option.isSome_iff_exists.1 h
    rw [hr]
    exact List.find?_some hr
  unfold pAt at h3
  simp only [Bool.and_eq_true, decide_eq_true_eq] at h3
  omega

/-- A method of numbers that there are. -/
def OkM (m : Met) : Prop := ∀ v ∈ m.2.2, OkN v

/-- A right method's bytes. -/
def encM (m : Met) : List UInt8 := putB 2 m.1 ++ (putB 2 m.2.1 ++ goE (rowAt m.1 m.2.1).2.2.1 m.2.2 [])

theorem right_fits {m : Met} (h : mright tbv m = 0) (hm : OkM m) : Fits (rowAt m.1 m.2.1).2.2.1 m.2.2 := by
  rw [mright_zero] at h
  obtain ⟨h1, h2, h3⟩ := h
  rw [vright_zero _ _ _ h2] at h3
  exact ⟨h2, fun c hc => letters_at hc, hm, h3⟩

theorem mbytes_right {m : Met} (h : mright tbv m = 0) : mbytes tbv m = (encM m, 0) := by
  have hr := at_range ((mright_zero tbv m).1 h).1
  unfold mbytes encM
  rw [if_neg (by simp [h]), goB_goE]
  have h1 : IntKind.u64.wrap m.1 = m.1 := by
    simp [IntKind.wrap, IntKind.bits, IntKind.signed]; omega
  have h2 : IntKind.u64.wrap m.2.1 = m.2.1 := by
    simp [IntKind.wrap, IntKind.bits, IntKind.signed]; omega
  rw [h1, h2, nput_ok (by decide) (by omega) (by omega), nput_ok (by decide) (by omega) (by omega), List.append_assoc]
theorem mbytes_wrong {m : Met} (h : mright tbv m ≠ 0) : mbytes tbv m = ([], mright tbv m) := by
  unfold mbytes; rw [if_pos h]

theorem take6_enc {m : Met} (h : mright tbv m = 0) (hm : OkM m) (t : List UInt8) : take6 (encM m ++ t) = (m, tailE t 0) := by
  have hat := ((mright_zero tbv m).1 h).1
  have hr := at_range hat
  obtain ⟨c, i, l⟩ := m
  simp only at hr hat
  obtain ⟨c', rfl⟩ : ∃ n : Nat, c = (n : Int) := ⟨c.toNat, by omega⟩
  obtain ⟨i', rfl⟩ : ∃ n : Nat, i = (n : Int) := ⟨i.toNat, by omega⟩
  have e1 : ntake (encM ((c' : Int), (i' : Int), l) ++ t) 2 = (c', putB 2 (i' : Int) ++ (goE (rowAt c' i').2.2.1 l [] ++ t), 0) := by
    unfold encM
    simp only [List.append_assoc]
    rw [ntake_put 2 _ (by omega) (by omega), Int.toNat_natCast]
  have e2 : ntake (putB 2 (i' : Int) ++ (goE (rowAt c' i').2.2.1 l [] ++ t)) 2 = (i', goE (rowAt c' i').2.2.1 l [] ++ t, 0) := by
    rw [ntake_put 2 _ (by omega) (by omega), Int.toNat_natCast]
  have e3 := take_enc (rowAt c' i').2.2.1.length (rowAt c' i').2.2.1 l t [] (Nat.le_refl _) (right_fits h hm)
  unfold take6
  rw [e1]
  simp only
  rw [e2]
  simp only
  rw [if_neg (by simp), if_neg (by simp), if_neg (by rw [hat]; simp), e3]
  rfl

theorem Take6_enc {m : Met} (h : mright tbv m = 0) (hm : OkM m) (t : List UInt8) : Take6 (encM m ++ t) = if t = [] then (m, 0) else (zMet, 7) := by
  unfold Take6
  rw [take6_enc h hm t]
  unfold tailE
  by_cases ht : t = []
  · subst ht
    simp [h]
  · simp [ht]

theorem Take6_ok {s : List UInt8} {m : Met} (h : Take6 s = (m, 0)) : mright tbv m = 0 ∧ OkM m ∧ s = encM m := by
  unfold Take6 at h
  split at h
  · simp at h
  · rename_i hn
    simp only [not_or, ne_eq, Decidable.not_not] at hn
    obtain ⟨hn1, hn2⟩ := hn
    simp only [Prod.mk.injEq, and_true] at h
    rw [h] at hn2
    refine ⟨hn2, ?_⟩
    unfold take6 at h hn1
    obtain ⟨c, r1, e1, q1⟩ : ∃ c r e, ntake s 2 = (c, r, e) := ⟨_, _, _, rfl⟩
    rw [q1] at h hn1
    simp only at h hn1
    split at h
    · rename_i hne; rw [if_pos hne] at hn1; exact absurd hn1 hne
    · rename_i he1
      rw [if_neg he1] at hn1
      obtain rfl : e1 = 0 := by simpa using he1
      obtain ⟨d, r2, e2, q2⟩ : ∃ c r e, ntake r1 2 = (c, r, e) := ⟨_, _, _, rfl⟩
      rw [q2] at h hn1
      simp only at h hn1
      split at h
      · rename_i hne; rw [if_pos hne] at hn1; exact absurd hn1 hne
      · rename_i he2
        rw [if_neg he2] at hn1
        obtain rfl : e2 = 0 := by simpa using he2
        split at h
        · rename_i hna; rw [if_pos hna] at hn1; cases hn1
        · rename_i hna
          rw [if_neg hna] at hn1
          obtain ⟨l, left, e, q3⟩ : ∃ l r e, takeL (rowAt (c : Int) (d : Int)).2.2.1.length (rowAt (c : Int) (d : Int)).2.2.1 r2 [] = (l, r, e) := ⟨_, _, _, rfl⟩
          rw [q3] at h hn1
          simp only at h hn1
          have he : e = 0 ∧ left = [] := by
            unfold tailE at hn1
            split at hn1
            · cases hn1
            · rename_i hx
              refine ⟨hn1, ?_⟩
              by_cases hl : left = []
              · exact hl
              · exact absurd ⟨hn1, hl⟩ hx
          obtain ⟨rfl, rfl⟩ := he
          obtain ⟨l', g1, g2, g3, g4⟩ := enc_take _ _ _ _ _ _ (Nat.le_refl _) (fun x hx => letters_at hx) q3
          obtain ⟨p1, _⟩ := put_ntake 2 s q1
          obtain ⟨p2, _⟩ := put_ntake 2 r1 q2
          rw [List.nil_append] at g1
          subst g1
          subst h
          refine ⟨g4, ?_⟩
          unfold encM
          rw [p1, p2, g3, List.append_nil]

theorem Take6_err {s : List UInt8} (h : (Take6 s).2 ≠ 0) : Take6 s = (zMet, 7) := by
  unfold Take6 at h ⊢
  split
  · rfl
  · rename_i hn
    rw [if_neg hn] at h
    exact absurd rfl h

/-- No beginning of a method's bytes is one's. -/
theorem cut_wrong {m : Met} (h : mright tbv m = 0) (hm : OkM m) {cut : Nat} (hc : cut < (encM m).length) : Take6 ((encM m).take cut) = (zMet, 7) := by
  by_cases hz : (Take6 ((encM m).take cut)).2 = 0
  · exfalso
    obtain ⟨k, hk⟩ : ∃ k, Take6 ((encM m).take cut) = (k, 0) := ⟨(Take6 ((encM m).take cut)).1, by rw [← hz]⟩
    obtain ⟨h1, h2, h3⟩ := Take6_ok hk
    have h4 := Take6_enc h1 h2 ((encM m).drop cut)
    rw [← h3, List.take_append_drop] at h4
    have h5 := Take6_enc h hm []
    rw [List.append_nil, if_pos rfl] at h5
    rw [h5, if_neg (by
      intro hd
      have := congrArg List.length hd
      simp at this
      omega)] at h4
    simp at h4
  · exact Take6_err hz

theorem enc_inj {a b : Met} (ha : mright tbv a = 0) (hb : mright tbv b = 0) (oa : OkM a) (ob : OkM b) (h : encM a = encM b) : a = b := by
  have h1 := Take6_enc ha oa []
  have h2 := Take6_enc hb ob []
  rw [List.append_nil, if_pos rfl] at h1 h2
  rw [h, h2] at h1
  simp at h1
  exact h1.symm
end Go.Abs.Sig

/-! Q7 -/
namespace Go.Abs.Sig
open Go.RowKit Go.Abs
set_option linter.unusedSimpArgs false
set_option linter.unusedVariables false
set_option maxRecDepth 8000
attribute [local irreducible] StCall StYield WPc Weak IterOf Lp2

/-! ### how long they are -/
theorem nput_len9 (n : Nat) (v : Int) (hn : n ≤ 8) : (nput n v).1.length ≤ 8 := Nat.le_trans (putB_len' n v) hn
theorem layS_len9 (n : Nat) (s : List UInt8) (hn : n ≤ 8) : (layS n s).1.length ≤ 8 + s.length := by
  unfold layS
  split
  · simp
  · simp [putB_len]; omega
theorem layV_len {c : UInt8} (hl : IsLet c) (h98 : c ≠ 98) {v : Val'} (h : rl tbv c v = 0) : (layV c v).length ≤ 8589934600 := by
  rcases hl with rfl | rfl | rfl | rfl | rfl | rfl | rfl | rfl
  · have := nput_len9 1 v.1 (by decide); show (nput 1 v.1).1.length ≤ _; omega
  · have := nput_len9 2 v.1 (by decide); show (nput 2 v.1).1.length ≤ _; omega
  · have := nput_len9 4 v.1 (by decide); show (nput 4 v.1).1.length ≤ _; omega
  · have := nput_len9 8 v.1 (by decide); show (nput 8 v.1).1.length ≤ _; omega
  · exact absurd rfl h98
  · have h : wt ((255 : Nat) : Int) v = 0 := h
    have := (wt_zeroN h).1
    have := layS_len9 1 v.2 (by decide); show (layS 1 v.2).1.length ≤ _; omega
  · have h : wt ((131072 : Nat) : Int) v = 0 := h
    have := (wt_zeroN h).1
    have := layS_len9 4 v.2 (by decide); show (layS 4 v.2).1.length ≤ _; omega
  · have h : tbv v = 0 := h
    unfold tbv at h
    split at h
    · cases h
    · split at h
      · cases h
      · rename_i hb
        have := (tblF_app (t := []) (show tbBad v.2 = false by simpa using hb)).2.2
        show v.2.length ≤ _
        omega
theorem goE_len : ∀ (s : List UInt8) (l : List Val') (bits : List Bool), Fits s l → (goE s l bits).length ≤ bits.length + s.length * 8589934608 + 1
  | [], l, bits, _ => by
    unfold goE
    rw [bitsB_len]
    simp; omega
  | c :: s, [], bits, h => by have := h.1; simp at this
  | c :: s, v :: l, bits, h => by
    unfold goE
    split
    · have := goE_len s l (bits ++ [decide (v.1 = 1)]) (h.drop 1)
      simp only [List.length_append, List.length_cons, List.length_nil] at this ⊢
      omega
    · rename_i hc
      have h1 := goE_len s l [] (h.drop 1)
      have h2 := layV_len (h.2.1 c (by simp)) hc (h.2.2.2 0 c v rfl rfl)
      have h3 := bitsB_len bits
      simp only [List.length_append, List.length_cons, List.length_nil] at h1 ⊢
      omega
theorem encM_len {m : Met} (h : mright tbv m = 0) (hm : OkM m) : 4 ≤ (encM m).length ∧ (encM m).length ≤ 1099511627776 := by
  have h1 := goE_len _ _ [] (right_fits h hm)
  have h2 := tab_short64 m.1 m.2.1
  unfold encM
  simp only [List.length_append, putB_len, List.length_nil] at h1 ⊢
  omega

theorem okM_of {m : Met} (h : OkMet m) : OkM m := fun v hv => (h.2.2.2 v hv).1
theorem okMet_maxLen {m : Met} (h : OkMet m) : m.2.2.length ≤ maxLen := by
  have := h.2.2.1
  simp only [reachBytes] at this
  simp only [maxLen]
  omega
theorem mbytesT_ct (G : Nat → Option (List V)) (hG : G 1 = some wV) (m : Met) (hm : ∀ v ∈ m.2.2, v.2.length ≤ maxBytes) (H : Heap) :
    Call2 Go.Proofs.Tryd.prog G 24 [.agg (mcells m)] H fun r H' => H' = H ∧ r = .tup [.str (mbytes tbv m).1, .int .i64 (mbytes tbv m).2] := mbytes_ct G hG tbv m (fun _ => tbOk G hG) hm H

end Go.Abs.Sig

/-! Q8 -/
namespace Go.Abs.Sig
open Go.RowKit Go.Abs
set_option linter.unusedSimpArgs false
set_option linter.unusedVariables false
set_option maxRecDepth 8000
attribute [local irreducible] StCall StYield WPc Weak IterOf Lp2 encM mright

theorem take6_strB (s : List UInt8) (h : s.length ≤ maxBytes) : ∀ v ∈ (take6 s).1.2.2, v.2.length ≤ maxBytes := by
  unfold take6
  split
  · intro v hv; cases hv
  · split
    · intro v hv; cases hv
    · split
      · intro v hv; cases hv
      · exact takeL_str _ _ _ _ _ (Nat.le_trans (ntake_len _ _).1 (Nat.le_trans (ntake_len _ _).1 h)) (fun v hv => by cases hv)
theorem methodApart_ct (G : Nat → Option (List V)) (hG : G 1 = some wV) (a b : Met) (ha : OkMet a) (hb : OkMet b) (sa : ∀ v ∈ a.2.2, v.2.length ≤ maxBytes) (sb : ∀ v ∈ b.2.2, v.2.length ≤ maxBytes) (H : Heap) :
    Call2 Go.Proofs.Tryd.prog G 7 [.agg (mcells a), .agg (mcells b)] H fun r H' => H' = H ∧ r = .bool true := by
  refine Call2.free (fun x hx => by
    simp only [List.mem_cons, List.not_mem_nil, or_false] at hx
    rcases hx with rfl | rfl
    · exact mcells_free _
    · first | exact mcells_free _ | exact .str _) ?_ H
  refine stCall2 Go.Proofs.Tryd.func7 rfl (by decide) ?_
  have h1 := mbytesT_ct G hG a sa
  have h2 := mbytesT_ct G hG b sb
  have h3 := rsame_ct G a b (okMet_maxLen ha)
  have hab : mright tbv a = 0 → mright tbv b = 0 → (decide (encM a = encM b) == decide (a = b)) = true := fun ra rb => by
    by_cases hab : a = b
    · subst hab; simp
    · have : encM a ≠ encM b := fun h => hab (enc_inj ra rb (okM_of ha) (okM_of hb) h)
      simp [hab, this]
  by_cases ra : mright tbv a = 0
  · rw [mbytes_right ra] at h1
    have hl := (encM_len ra (okM_of ha)).1
    by_cases rb : mright tbv b = 0
    · rw [mbytes_right rb] at h2
      have he := hab ra rb
      clear hab
      generalize encM a = ea at *
      generalize encM b = eb at *
      generalize hdd : decide (a = b) = dd at *
      conv => whnf
      refine Call2.mono (shownM_ct G hG _) fun r0 H0 h => ?_
      obtain ⟨h1, h2⟩ := h
      rw [h1, h2]
      clear h1 h2 r0 H0
      conv => whnf
      refine Call2.mono (h1 _) fun r0 H0 h => ?_
      obtain ⟨h1, h2⟩ := h
      rw [h1, h2]
      clear h1 h2 r0 H0
      conv => whnf
      refine Call2.mono (h2 _) fun r0 H0 h => ?_
      obtain ⟨h1, h2⟩ := h
      rw [h1, h2]
      clear h1 h2 r0 H0
      conv => whnf
      refine Call2.mono (h3 _) fun r0 H0 h => ?_
      obtain ⟨h1, h2⟩ := h
      rw [h1, h2]
      clear h1 h2 r0 H0
      conv => whnf
      simp only
      rw [he]
      conv => whnf
      refine ⟨.im _, ?_⟩
      show V.bool (decide ((4 : Int) ≤ (ea.length : Int))) = _
      rw [decide_eq_true (by omega)]
    · rw [mbytes_wrong rb] at h2
      have hd : decide (mright tbv b ≠ 0) = true := decide_eq_true rb
      clear hab
      generalize encM a = ea at *
      generalize mright tbv b = eb at *
      conv => whnf
      refine Call2.mono (shownM_ct G hG _) fun r0 H0 h => ?_
      obtain ⟨h1, h2⟩ := h
      rw [h1, h2]
      clear h1 h2 r0 H0
      conv => whnf
      refine Call2.mono (h1 _) fun r0 H0 h => ?_
      obtain ⟨h1, h2⟩ := h
      rw [h1, h2]
      clear h1 h2 r0 H0
      conv => whnf
      refine Call2.mono (h2 _) fun r0 H0 h => ?_
      obtain ⟨h1, h2⟩ := h
      rw [h1, h2]
      clear h1 h2 r0 H0
      conv => whnf
      simp only
      simp only [hd]
      conv => whnf
      refine ⟨.im _, ?_⟩
      show V.bool (decide ((4 : Int) ≤ (ea.length : Int))) = _
      rw [decide_eq_true (by omega)]
  · rw [mbytes_wrong ra] at h1
    have hd : decide (mright tbv a ≠ 0) = true := decide_eq_true ra
    clear hab
    generalize mright tbv a = ea at *
    generalize mbytes tbv b = eb at *
    conv => whnf
    refine Call2.mono (shownM_ct G hG _) fun r0 H0 h => ?_
    obtain ⟨h1, h2⟩ := h
    rw [h1, h2]
    clear h1 h2 r0 H0
    conv => whnf
    refine Call2.mono (h1 _) fun r0 H0 h => ?_
    obtain ⟨h1, h2⟩ := h
    rw [h1, h2]
    clear h1 h2 r0 H0
    conv => whnf
    refine Call2.mono (h2 _) fun r0 H0 h => ?_
    obtain ⟨h1, h2⟩ := h
    rw [h1, h2]
    clear h1 h2 r0 H0
    conv => whnf
    simp only
    simp only [hd]
    conv => whnf
    simp only [hd]
    conv => whnf
    exact ⟨.im _, rfl⟩

theorem methodBack_ct (G : Nat → Option (List V)) (hG : G 1 = some wV) (m : Met) (s : List UInt8) (hm : OkMet m) (sm : ∀ v ∈ m.2.2, v.2.length ≤ maxBytes) (hs : s.length ≤ maxBytes) (H : Heap) :
    Call2 Go.Proofs.Tryd.prog G 11 [.agg (mcells m), .str s] H fun r H' => H' = H ∧ r = .bool true := by
  refine Call2.free (fun x hx => by
    simp only [List.mem_cons, List.not_mem_nil, or_false] at hx
    rcases hx with rfl | rfl
    · exact mcells_free _
    · first | exact mcells_free _ | exact .str _) ?_ H
  refine stCall2 Go.Proofs.Tryd.func11 rfl (by decide) ?_
  have h1 := mbytesT_ct G hG m sm
  have h4 := mTake_ct G hG s (le_maxStr hs)
  have hys : ∀ v ∈ (Take6 s).1.2.2, v.2.length ≤ maxBytes := by
    unfold Take6
    split
    · intro v hv; cases hv
    · exact take6_strB s hs
  have h5 := mbytesT_ct G hG (Take6 s).1 hys
  have h6 := mrightT_ct G hG (Take6 s).1 (fun v hv => le_maxStr (hys v hv))
  have hok : (Take6 s).2 = 0 → mright tbv (Take6 s).1 = 0 ∧ mbytes tbv (Take6 s).1 = (s, 0) := fun h => by
    obtain ⟨k, hk⟩ : ∃ k, Take6 s = (k, 0) := ⟨(Take6 s).1, by rw [← h]⟩
    obtain ⟨g1, _, g3⟩ := Take6_ok hk
    rw [hk]
    exact ⟨g1, by rw [mbytes_right g1, ← g3]⟩
  generalize Take6 s = y at *
  obtain ⟨y, g⟩ := y
  simp only at h4 h5 h6 hok hys
  by_cases ra : mright tbv m = 0
  · rw [mbytes_right ra] at h1
    have hl := (encM_len ra (okM_of hm)).2
    have h2 := mTake_ct G hG (encM m) (Nat.le_trans hl (by decide))
    have he := Take6_enc ra (okM_of hm) []
    rw [List.append_nil, if_pos rfl] at he
    rw [he] at h2
    have h3 := rsame_ct G m m (okMet_maxLen hm)
    rw [decide_eq_true rfl] at h3
    clear he hl
    generalize encM m = ea at *
    conv => whnf
    refine Call2.mono (shownM_ct G hG _) fun r0 H0 h => ?_
    obtain ⟨h1, h2⟩ := h
    rw [h1, h2]
    clear h1 h2 r0 H0
    conv => whnf
    refine Call2.mono (h1 _) fun r0 H0 h => ?_
    obtain ⟨h1, h2⟩ := h
    rw [h1, h2]
    clear h1 h2 r0 H0
    conv => whnf
    refine Call2.mono (h2 _) fun r0 H0 h => ?_
    obtain ⟨h1, h2⟩ := h
    rw [h1, h2]
    clear h1 h2 r0 H0
    conv => whnf
    refine Call2.mono (h3 _) fun r0 H0 h => ?_
    obtain ⟨h1, h2⟩ := h
    rw [h1, h2]
    clear h1 h2 r0 H0
    conv => whnf
    refine Call2.mono (h4 _) fun r0 H0 h => ?_
    obtain ⟨h1, h2⟩ := h
    rw [h1, h2]
    clear h1 h2 r0 H0
    conv => whnf
    refine Call2.mono (h5 _) fun r0 H0 h => ?_
    obtain ⟨h1, h2⟩ := h
    rw [h1, h2]
    clear h1 h2 r0 H0
    conv => whnf
    by_cases hg : g = 0
    · subst hg
      obtain ⟨g1, g2⟩ := hok rfl
      rw [g2]
      conv => whnf
      have hss : decide (s = s) = true := decide_eq_true rfl
      simp only [hss]
      conv => whnf
      refine Call2.mono (h6 _) fun r0 H0 h => ?_
      obtain ⟨h1, h2⟩ := h
      rw [h1, h2]
      clear h1 h2 r0 H0
      conv => whnf
      rw [g1]
      exact ⟨.im _, rfl⟩
    · have hgd : decide (g ≠ 0) = true := decide_eq_true hg
      simp only [hgd]
      conv => whnf
      exact ⟨.im _, rfl⟩
  · rw [mbytes_wrong ra] at h1
    have hd : decide (mright tbv m = 0) = false := decide_eq_false ra
    generalize mright tbv m = ea at *
    conv => whnf
    refine Call2.mono (shownM_ct G hG _) fun r0 H0 h => ?_
    obtain ⟨h1, h2⟩ := h
    rw [h1, h2]
    clear h1 h2 r0 H0
    conv => whnf
    refine Call2.mono (h1 _) fun r0 H0 h => ?_
    obtain ⟨h1, h2⟩ := h
    rw [h1, h2]
    clear h1 h2 r0 H0
    conv => whnf
    simp only [hd]
    conv => whnf
    refine Call2.mono (h4 _) fun r0 H0 h => ?_
    obtain ⟨h1, h2⟩ := h
    rw [h1, h2]
    clear h1 h2 r0 H0
    conv => whnf
    refine Call2.mono (h5 _) fun r0 H0 h => ?_
    obtain ⟨h1, h2⟩ := h
    rw [h1, h2]
    clear h1 h2 r0 H0
    conv => whnf
    by_cases hg : g = 0
    · subst hg
      obtain ⟨g1, g2⟩ := hok rfl
      rw [g2]
      conv => whnf
      have hss : decide (s = s) = true := decide_eq_true rfl
      simp only [hss]
      conv => whnf
      refine Call2.mono (h6 _) fun r0 H0 h => ?_
      obtain ⟨h1, h2⟩ := h
      rw [h1, h2]
      clear h1 h2 r0 H0
      conv => whnf
      rw [g1]
      exact ⟨.im _, rfl⟩
    · have hgd : decide (g ≠ 0) = true := decide_eq_true hg
      simp only [hgd]
      conv => whnf
      exact ⟨.im _, rfl⟩
end Go.Abs.Sig

/-! W3 -/
namespace Go.Abs.Sig
open Go.RowKit Go.Abs
set_option linter.unusedSimpArgs false
set_option linter.unusedVariables false
set_option maxRecDepth 8000

theorem methodApart_walk (xs : List V) (h : ShAll Go.Proofs.Tryd.prog 8 (#[26, 26] : Array TypeId).toList xs) : Call2 Go.Proofs.Tryd.prog GW 7 xs [] fun r H' => H' = [] ∧ r = .bool true := by
  obtain ⟨x1, r1, h1, ⟨x2, r2, h2, rfl, rfl⟩, rfl⟩ := h
  obtain ⟨m, rfl, hm⟩ := shv_met h1
  obtain ⟨k, rfl, hk⟩ := shv_met h2
  exact methodApart_ct GW GW1 m k hm hk (okMet_str hm) (okMet_str hk) []
theorem methodBack_walk (xs : List V) (h : ShAll Go.Proofs.Tryd.prog 8 (#[26, 9] : Array TypeId).toList xs) : Call2 Go.Proofs.Tryd.prog GW 11 xs [] fun r H' => H' = [] ∧ r = .bool true := by
  obtain ⟨x1, r1, h1, ⟨x2, r2, h2, rfl, rfl⟩, rfl⟩ := h
  obtain ⟨m, rfl, hm⟩ := shv_met h1
  obtain ⟨s, rfl, hs⟩ := shv_str h2
  exact methodBack_ct GW GW1 m s hm (okMet_str hm) hs []
end Go.Abs.Sig

/-! R1 -/
namespace Go.Abs.Sig
open Go.RowKit Go.Abs
set_option linter.unusedSimpArgs false
set_option linter.unusedVariables false
set_option maxRecDepth 8000
attribute [local irreducible] StCall StYield WPc Weak IterOf Lp2

/-! ### the reference's num, text -/
def rnS (s : List UInt8) (n j : Nat) : S2 := headS 43 ([.str s, .int .i64 (n : Int), .bad, .bad, .bad, .bad, .bad, .int .u64 (beN (s.take j) : Int), .im (.int .i64 (j : Int))] ++ List.replicate 34 .bad) [] [] none

theorem mul8 {v : Nat} {b : UInt8} (hv : v < 256 ^ 7) : IntKind.u64.wrap (IntKind.u64.wrap (256 * (v : Int)) + IntKind.u64.wrap (b.toNat : Int)) = ((v * 256 + b.toNat : Nat) : Int) := by
  have hb := b.toNat_lt
  simp [IntKind.wrap, IntKind.bits, IntKind.signed]
  omega

theorem rtake_ct (G : Nat → Option (List V)) (n : Nat) (hn : n = 1 ∨ n = 2 ∨ n = 4 ∨ n = 8) (s : List UInt8) (H : Heap) : Call2 Go.Proofs.Tryd.prog G 73 [.str s, .int .i64 (n : Int)] H fun r H' => H' = H ∧ r = ntV (ntake s n) := by
  refine Call2.free (fun x hx => by
    simp only [List.mem_cons, List.not_mem_nil, or_false] at hx
    rcases hx with rfl | rfl
    · exact .str _
    · exact .im _) ?_ H
  refine stCall2 Go.Proofs.Tryd.func73 rfl (by decide) ?_
  unfold ntake
  conv => whnf
  by_cases h1 : n = 1
  · simp only [show decide ((n : Int) ≠ 1) = false from decide_eq_false (by omega)]
    conv => whnf
    by_cases hlt : s.length < n
    · have hlt' : decide ((s.length : Int) < (n : Int)) = true := decide_eq_true (by omega)
      refine br_t hlt' ?_
      conv => whnf
      rw [if_pos hlt]
      exact ⟨ntV_free (0, [], 2), rfl⟩
    · have hlt' : decide ((s.length : Int) < (n : Int)) = false := decide_eq_false (by omega)
      refine br_f hlt' ?_
      conv => whnf
      intro hw
      refine wpc_loop2 (fun n1 s1 => ∃ j : Nat, j ≤ n ∧ n1 = n - j ∧ s1 = rnS s n j) n (rnS s n 0) ?_ ⟨0, by omega, rfl, rfl⟩ ?_ ?_
      · exact weak2 hw rfl ⟨.str _, .im _, .im _, .im _, trivial⟩ (.nil _) (fun id hid => by cases hid) rfl (fun id hid => by cases hid)
      · rintro n1 s1 ⟨j, _, _, rfl⟩
        exact ⟨⟨Nat.le_refl 43, fun x hx => by cases hx⟩, rfl, Nat.le_refl _, rfl⟩
      · rintro n1 s1 ⟨j, hj, rfl, rfl⟩
        by_cases hjn : j < n
        · obtain ⟨b, hb⟩ := str_get (s := s) (j := j) (by omega)
          have hwj : IntKind.i64.wrap ((j : Int) + 1) = ((j + 1 : Nat) : Int) := by rw [wrap_i64 (by omega) (by omega)]; rfl
          have hbe : beN (s.take j) < 256 ^ 7 := by
            have h1 := beN_lt j (s.take j) (by rw [List.length_take]; omega)
            have h2 : 256 ^ j ≤ 256 ^ 7 := Nat.pow_le_pow_right (by decide) (by omega)
            omega
          have hor := mul8 (b := b) hbe
          rw [← beN_snoc, ← take_snoc hb] at hor
          have hget : s[Int.toNat (j : Int)]? = some b := hb
          have hd0 : decide (0 ≤ (j : Int)) = true := decide_eq_true (by omega)
          conv => whnf
          refine br_t (decide_eq_true (by omega)) ?_
          conv => whnf
          refine grd_intro hd0 (optK_intro hget ?_)
          conv => whnf
          intro hw3
          refine ⟨n - (j + 1), rnS s n (j + 1), by omega, ?_, j + 1, by omega, rfl, rfl⟩
          exact weak2 hw3 rfl ⟨.str _, .im _, .int hor, .int hwj, trivial⟩ (.nil _) (fun id hid => by cases hid) rfl (fun id hid => by cases hid)
        · have hjn' : j = n := by omega
          conv => whnf
          refine br_f (decide_eq_false (by omega)) ?_
          conv => whnf
          intro hw3
          refine wpc_draw2 7 (by rfl) (by decide) (by decide) hw3 ?_
          conv => whnf
          refine ⟨⟨by omega, by omega, by omega⟩, ?_⟩
          conv => whnf
          rw [if_neg hlt, hjn']
          have hsl : (List.take ((s.length : Nat) : Int).toNat s) = s := List.take_length
          rw [hsl]
          exact ⟨ntV_free (beN (s.take n), s.drop n, 0), rfl⟩
  · simp only [show decide ((n : Int) ≠ 1) = true from decide_eq_true (by omega)]
    conv => whnf
    by_cases h2 : n = 2
    · simp only [show decide ((n : Int) ≠ 2) = false from decide_eq_false (by omega)]
      conv => whnf
      by_cases hlt : s.length < n
      · have hlt' : decide ((s.length : Int) < (n : Int)) = true := decide_eq_true (by omega)
        refine br_t hlt' ?_
        conv => whnf
        rw [if_pos hlt]
        exact ⟨ntV_free (0, [], 2), rfl⟩
      · have hlt' : decide ((s.length : Int) < (n : Int)) = false := decide_eq_false (by omega)
        refine br_f hlt' ?_
        conv => whnf
        intro hw
        refine wpc_loop2 (fun n1 s1 => ∃ j : Nat, j ≤ n ∧ n1 = n - j ∧ s1 = rnS s n j) n (rnS s n 0) ?_ ⟨0, by omega, rfl, rfl⟩ ?_ ?_
        · exact weak2 hw rfl ⟨.str _, .im _, .im _, .im _, trivial⟩ (.nil _) (fun id hid => by cases hid) rfl (fun id hid => by cases hid)
        · rintro n1 s1 ⟨j, _, _, rfl⟩
          exact ⟨⟨Nat.le_refl 43, fun x hx => by cases hx⟩, rfl, Nat.le_refl _, rfl⟩
        · rintro n1 s1 ⟨j, hj, rfl, rfl⟩
          by_cases hjn : j < n
          · obtain ⟨b, hb⟩ := str_get (s := s) (j := j) (by omega)
            have hwj : IntKind.i64.wrap ((j : Int) + 1) = ((j + 1 : Nat) : Int) := by rw [wrap_i64 (by omega) (by omega)]; rfl
            have hbe : beN (s.take j) < 256 ^ 7 := by
              have h1 := beN_lt j (s.take j) (by rw [List.length_take]; omega)
              have h2 : 256 ^ j ≤ 256 ^ 7 := Nat.pow_le_pow_right (by decide) (by omega)
              omega
            have hor := mul8 (b := b) hbe
            rw [← beN_snoc, ← take_snoc hb] at hor
            have hget : s[Int.toNat (j : Int)]? = some b := hb
            have hd0 : decide (0 ≤ (j : Int)) = true := decide_eq_true (by omega)
            conv => whnf
            refine br_t (decide_eq_true (by omega)) ?_
            conv => whnf
            refine grd_intro hd0 (optK_intro hget ?_)
            conv => whnf
            intro hw3
            refine ⟨n - (j + 1), rnS s n (j + 1), by omega, ?_, j + 1, by omega, rfl, rfl⟩
            exact weak2 hw3 rfl ⟨.str _, .im _, .int hor, .int hwj, trivial⟩ (.nil _) (fun id hid => by cases hid) rfl (fun id hid => by cases hid)
          · have hjn' : j = n := by omega
            conv => whnf
            refine br_f (decide_eq_false (by omega)) ?_
            conv => whnf
            intro hw3
            refine wpc_draw2 7 (by rfl) (by decide) (by decide) hw3 ?_
            conv => whnf
            refine ⟨⟨by omega, by omega, by omega⟩, ?_⟩
            conv => whnf
            rw [if_neg hlt, hjn']
            have hsl : (List.take ((s.length : Nat) : Int).toNat s) = s := List.take_length
            rw [hsl]
            exact ⟨ntV_free (beN (s.take n), s.drop n, 0), rfl⟩
    · simp only [show decide ((n : Int) ≠ 2) = true from decide_eq_true (by omega)]
      conv => whnf
      by_cases h4 : n = 4
      · simp only [show decide ((n : Int) ≠ 4) = false from decide_eq_false (by omega)]
        conv => whnf
        by_cases hlt : s.length < n
        · have hlt' : decide ((s.length : Int) < (n : Int)) = true := decide_eq_true (by omega)
          refine br_t hlt' ?_
          conv => whnf
          rw [if_pos hlt]
          exact ⟨ntV_free (0, [], 2), rfl⟩
        · have hlt' : decide ((s.length : Int) < (n : Int)) = false := decide_eq_false (by omega)
          refine br_f hlt' ?_
          conv => whnf
          intro hw
          refine wpc_loop2 (fun n1 s1 => ∃ j : Nat, j ≤ n ∧ n1 = n - j ∧ s1 = rnS s n j) n (rnS s n 0) ?_ ⟨0, by omega, rfl, rfl⟩ ?_ ?_
          · exact weak2 hw rfl ⟨.str _, .im _, .im _, .im _, trivial⟩ (.nil _) (fun id hid => by cases hid) rfl (fun id hid => by cases hid)
          · rintro n1 s1 ⟨j, _, _, rfl⟩
            exact ⟨⟨Nat.le_refl 43, fun x hx => by cases hx⟩, rfl, Nat.le_refl _, rfl⟩
          · rintro n1 s1 ⟨j, hj, rfl, rfl⟩
            by_cases hjn : j < n
            · obtain ⟨b, hb⟩ := str_get (s := s) (j := j) (by omega)
              have hwj : IntKind.i64.wrap ((j : Int) + 1) = ((j + 1 : Nat) : Int) := by rw [wrap_i64 (by omega) (by omega)]; rfl
              have hbe : beN (s.take j) < 256 ^ 7 := by
                have h1 := beN_lt j (s.take j) (by rw [List.length_take]; omega)
                have h2 : 256 ^ j ≤ 256 ^ 7 := Nat.pow_le_pow_right (by decide) (by omega)
                omega
              have hor := mul8 (b := b) hbe
              rw [← beN_snoc, ← take_snoc hb] at hor
              have hget : s[Int.toNat (j : Int)]? = some b := hb
              have hd0 : decide (0 ≤ (j : Int)) = true := decide_eq_true (by omega)
              conv => whnf
              refine br_t (decide_eq_true (by omega)) ?_
              conv => whnf
              refine grd_intro hd0 (optK_intro hget ?_)
              conv => whnf
              intro hw3
              refine ⟨n - (j + 1), rnS s n (j + 1), by omega, ?_, j + 1, by omega, rfl, rfl⟩
              exact weak2 hw3 rfl ⟨.str _, .im _, .int hor, .int hwj, trivial⟩ (.nil _) (fun id hid => by cases hid) rfl (fun id hid => by cases hid)
            · have hjn' : j = n := by omega
              conv => whnf
              refine br_f (decide_eq_false (by omega)) ?_
              conv => whnf
              intro hw3
              refine wpc_draw2 7 (by rfl) (by decide) (by decide) hw3 ?_
              conv => whnf
              refine ⟨⟨by omega, by omega, by omega⟩, ?_⟩
              conv => whnf
              rw [if_neg hlt, hjn']
              have hsl : (List.take ((s.length : Nat) : Int).toNat s) = s := List.take_length
              rw [hsl]
              exact ⟨ntV_free (beN (s.take n), s.drop n, 0), rfl⟩
      · simp only [show decide ((n : Int) ≠ 4) = true from decide_eq_true (by omega)]
        conv => whnf
        refine br_f (decide_eq_false (by omega)) ?_
        conv => whnf
        by_cases hlt : s.length < n
        · have hlt' : decide ((s.length : Int) < (n : Int)) = true := decide_eq_true (by omega)
          refine br_t hlt' ?_
          conv => whnf
          rw [if_pos hlt]
          exact ⟨ntV_free (0, [], 2), rfl⟩
        · have hlt' : decide ((s.length : Int) < (n : Int)) = false := decide_eq_false (by omega)
          refine br_f hlt' ?_
          conv => whnf
          intro hw
          refine wpc_loop2 (fun n1 s1 => ∃ j : Nat, j ≤ n ∧ n1 = n - j ∧ s1 = rnS s n j) n (rnS s n 0) ?_ ⟨0, by omega, rfl, rfl⟩ ?_ ?_
          · exact weak2 hw rfl ⟨.str _, .im _, .im _, .im _, trivial⟩ (.nil _) (fun id hid => by cases hid) rfl (fun id hid => by cases hid)
          · rintro n1 s1 ⟨j, _, _, rfl⟩
            exact ⟨⟨Nat.le_refl 43, fun x hx => by cases hx⟩, rfl, Nat.le_refl _, rfl⟩
          · rintro n1 s1 ⟨j, hj, rfl, rfl⟩
            by_cases hjn : j < n
            · obtain ⟨b, hb⟩ := str_get (s := s) (j := j) (by omega)
              have hwj : IntKind.i64.wrap ((j : Int) + 1) = ((j + 1 : Nat) : Int) := by rw [wrap_i64 (by omega) (by omega)]; rfl
              have hbe : beN (s.take j) < 256 ^ 7 := by
                have h1 := beN_lt j (s.take j) (by rw [List.length_take]; omega)
                have h2 : 256 ^ j ≤ 256 ^ 7 := Nat.pow_le_pow_right (by decide) (by omega)
                omega
              have hor := mul8 (b := b) hbe
              rw [← beN_snoc, ← take_snoc hb] at hor
              have hget : s[Int.toNat (j : Int)]? = some b := hb
              have hd0 : decide (0 ≤ (j : Int)) = true := decide_eq_true (by omega)
              conv => whnf
              refine br_t (decide_eq_true (by omega)) ?_
              conv => whnf
              refine grd_intro hd0 (optK_intro hget ?_)
              conv => whnf
              intro hw3
              refine ⟨n - (j + 1), rnS s n (j + 1), by omega, ?_, j + 1, by omega, rfl, rfl⟩
              exact weak2 hw3 rfl ⟨.str _, .im _, .int hor, .int hwj, trivial⟩ (.nil _) (fun id hid => by cases hid) rfl (fun id hid => by cases hid)
            · have hjn' : j = n := by omega
              conv => whnf
              refine br_f (decide_eq_false (by omega)) ?_
              conv => whnf
              intro hw3
              refine wpc_draw2 7 (by rfl) (by decide) (by decide) hw3 ?_
              conv => whnf
              refine ⟨⟨by omega, by omega, by omega⟩, ?_⟩
              conv => whnf
              rw [if_neg hlt, hjn']
              have hsl : (List.take ((s.length : Nat) : Int).toNat s) = s := List.take_length
              rw [hsl]
              exact ⟨ntV_free (beN (s.take n), s.drop n, 0), rfl⟩
end Go.Abs.Sig

/-! R2 -/
namespace Go.Abs.Sig
open Go.RowKit Go.Abs
set_option linter.unusedSimpArgs false
set_option linter.unusedVariables false
set_option maxRecDepth 8000
attribute [local irreducible] StCall StYield WPc Weak IterOf Lp2

theorem beN1 (c : UInt8) : beN [c] = c.toNat := by simp [beN]
theorem ttake1 (c : UInt8) (t : List UInt8) : ttake 1 (c :: t) = skipF t c.toNat := by
  unfold ttake ntake
  rw [if_neg (by simp)]
  simp [beN1]
theorem ttake1_nil : ttake 1 [] = ([], [], 2) := rfl

theorem rshort_ct (G : Nat → Option (List V)) (s : List UInt8) (hs : s.length ≤ maxStr) (H : Heap) : Call2 Go.Proofs.Tryd.prog G 74 [.str s] H fun r H' => H' = H ∧ r = ssV (ttake 1 s) := by
  refine Call2.free (fun x hx => by
    simp only [List.mem_cons, List.not_mem_nil, or_false] at hx
    subst hx
    exact .str _) ?_ H
  refine stCall2 Go.Proofs.Tryd.func74 rfl (by decide) ?_
  cases s with
  | nil =>
    conv => whnf
    exact ⟨ssV_free ([], [], 2), rfl⟩
  | cons c t =>
    have hb := c.toNat_lt
    simp only [maxStr, List.length_cons] at hs
    have hw : IntKind.i64.wrap (1 + IntKind.i64.wrap (c.toNat : Int)) = ((1 + c.toNat : Nat) : Int) := by
      rw [wrap_i64 (n := (c.toNat : Int)) (by omega) (by omega), wrap_i64 (by omega) (by omega)]; omega
    rw [ttake1]
    unfold skipF
    conv => whnf
    simp only [show decide ((((c :: t).length : Nat) : Int) < 1) = false from decide_eq_false (by simp only [List.length_cons]; omega)]
    conv => whnf
    rw [hw]
    by_cases hlt : t.length < c.toNat
    · refine br_t (decide_eq_true (by simp only [List.length_cons]; omega)) ?_
      conv => whnf
      rw [if_pos hlt]
      exact ⟨ssV_free ([], [], 2), rfl⟩
    · refine br_f (decide_eq_false (by simp only [List.length_cons]; omega)) ?_
      rw [if_neg hlt]
      conv => whnf
      rw [hw]
      intro hw3
      refine wpc_draw2 9 (by rfl) (by decide) (by decide) hw3 ?_
      conv => whnf
      refine ⟨⟨by omega, by omega, by simp only [List.length_cons]; omega⟩, ?_⟩
      conv => whnf
      refine ⟨⟨by omega, by simp only [List.length_cons]; omega, by omega⟩, ?_⟩
      conv => whnf
      have h1 : List.drop (1 : Int).toNat (List.take (((1 + c.toNat : Nat) : Int)).toNat (c :: t)) = t.take c.toNat := by
        rw [Int.toNat_natCast, Nat.add_comm]; rfl
      have h2 : List.drop (((1 + c.toNat : Nat) : Int)).toNat (List.take (((c :: t).length : Nat) : Int).toNat (c :: t)) = t.drop c.toNat := by
        rw [Int.toNat_natCast, Int.toNat_natCast, List.take_length, Nat.add_comm]; rfl
      rw [h1, h2]
      exact ⟨ssV_free (t.take c.toNat, t.drop c.toNat, 0), rfl⟩

theorem rlong_ct (G : Nat → Option (List V)) (s : List UInt8) (hs : s.length ≤ maxStr) (H : Heap) : Call2 Go.Proofs.Tryd.prog G 75 [.str s] H fun r H' => H' = H ∧ r = ssV (ttake 4 s) := by
  refine Call2.free (fun x hx => by
    simp only [List.mem_cons, List.not_mem_nil, or_false] at hx
    subst hx
    exact .str _) ?_ H
  refine stCall2 Go.Proofs.Tryd.func75 rfl (by decide) ?_
  have h1 := rtake_ct G 4 (by decide) s
  have hl := (ntake_len s 4).1
  have hz : (ntake s 4).2.2 ≠ 0 → (ntake s 4).2.2 = 2 := by
    unfold ntake
    split
    · intro _; rfl
    · intro h; exact absurd rfl h
  unfold ttake
  generalize ntake s 4 = x at h1 hl hz
  obtain ⟨v, rest, e⟩ := x
  unfold ntV at h1
  simp only at h1 hl hz ⊢
  have hrl : rest.length ≤ 1152921504606846976 := Nat.le_trans hl hs
  have hu := u64_len hrl
  conv => whnf
  refine Call2.mono (h1 _) fun r0 H0 h => ?_
  obtain ⟨h1, h2⟩ := h
  rw [h1, h2]
  clear h1 h2 r0 H0
  conv => whnf
  by_cases he : e ≠ 0
  · simp only [decide_eq_true he]
    conv => whnf
    rw [if_pos he, hz he]
    exact ⟨ssV_free ([], [], 2), rfl⟩
  · have hd : decide (e ≠ 0) = false := decide_eq_false he
    simp only [hd]
    conv => whnf
    rw [hu]
    unfold skipF
    rw [if_neg he]
    by_cases hlt : rest.length < v
    · refine br_t (decide_eq_true (by omega)) ?_
      conv => whnf
      rw [if_pos hlt]
      exact ⟨ssV_free ([], [], 2), rfl⟩
    · refine br_f (decide_eq_false (by omega)) ?_
      rw [if_neg hlt]
      conv => whnf
      intro hw3
      refine wpc_draw2 9 (by rfl) (by decide) (by decide) hw3 ?_
      conv => whnf
      refine ⟨⟨by omega, by omega, by omega⟩, ?_⟩
      conv => whnf
      refine ⟨⟨by omega, by omega, by omega⟩, ?_⟩
      conv => whnf
      have hsl : (List.take ((rest.length : Nat) : Int).toNat rest) = rest := List.take_length
      rw [hsl]
      exact ⟨ssV_free (rest.take v, rest.drop v, 0), rfl⟩
theorem rinside_ct (G : Nat → Option (List V)) (s : List UInt8) (hs : s.length ≤ maxStr) (H : Heap) : Call2 Go.Proofs.Tryd.prog G 86 [.str s] H fun r H' => H' = H ∧ r = ssV (ttake 4 s) := by
  refine Call2.free (fun x hx => by
    simp only [List.mem_cons, List.not_mem_nil, or_false] at hx
    subst hx
    exact .str _) ?_ H
  refine stCall2 Go.Proofs.Tryd.func86 rfl (by decide) ?_
  have h1 := rtake_ct G 4 (by decide) s
  have hl := (ntake_len s 4).1
  have hz : (ntake s 4).2.2 ≠ 0 → (ntake s 4).2.2 = 2 := by
    unfold ntake
    split
    · intro _; rfl
    · intro h; exact absurd rfl h
  unfold ttake
  generalize ntake s 4 = x at h1 hl hz
  obtain ⟨v, rest, e⟩ := x
  unfold ntV at h1
  simp only at h1 hl hz ⊢
  have hrl : rest.length ≤ 1152921504606846976 := Nat.le_trans hl hs
  have hu := u64_len hrl
  conv => whnf
  refine Call2.mono (h1 _) fun r0 H0 h => ?_
  obtain ⟨h1, h2⟩ := h
  rw [h1, h2]
  clear h1 h2 r0 H0
  conv => whnf
  by_cases he : e ≠ 0
  · simp only [decide_eq_true he]
    conv => whnf
    rw [if_pos he, hz he]
    exact ⟨ssV_free ([], [], 2), rfl⟩
  · have hd : decide (e ≠ 0) = false := decide_eq_false he
    simp only [hd]
    conv => whnf
    rw [hu]
    unfold skipF
    rw [if_neg he]
    by_cases hlt : rest.length < v
    · refine br_t (decide_eq_true (by omega)) ?_
      conv => whnf
      rw [if_pos hlt]
      exact ⟨ssV_free ([], [], 2), rfl⟩
    · refine br_f (decide_eq_false (by omega)) ?_
      rw [if_neg hlt]
      conv => whnf
      intro hw3
      refine wpc_draw2 9 (by rfl) (by decide) (by decide) hw3 ?_
      conv => whnf
      refine ⟨⟨by omega, by omega, by omega⟩, ?_⟩
      conv => whnf
      refine ⟨⟨by omega, by omega, by omega⟩, ?_⟩
      conv => whnf
      have hsl : (List.take ((rest.length : Nat) : Int).toNat rest) = rest := List.take_length
      rw [hsl]
      exact ⟨ssV_free (rest.take v, rest.drop v, 0), rfl⟩
end Go.Abs.Sig

/-! R3 -/
namespace Go.Abs.Sig
open Go.RowKit Go.Abs
set_option linter.unusedSimpArgs false
set_option linter.unusedVariables false
set_option maxRecDepth 8000
attribute [local irreducible] StCall StYield WPc Weak IterOf Lp2

def rsize (c : UInt8) : Int := match szL.lookup c.toNat with | some n => (n : Int) | none => -1
set_option maxHeartbeats 2000000 in
theorem rsize_ct (G : Nat → Option (List V)) (c : UInt8) (H : Heap) : Call2 Go.Proofs.Tryd.prog G 99 [.int .u8 (c.toNat : Int)] H fun r H' => H' = H ∧ r = .int .i64 (rsize c) := by
  refine Call2.free (fun x hx => by
    simp only [List.mem_cons, List.not_mem_nil, or_false] at hx
    subst hx
    exact .im _) ?_ H
  refine stCall2 Go.Proofs.Tryd.func99 rfl (by decide) ?_
  conv => whnf
  by_cases h86 : c.toNat = 86
  · simp only [show decide ((c.toNat : Int) = 86) = true from decide_eq_true (by omega)]
    conv => whnf
    exact ⟨.im _, by unfold rsize; rw [h86]; rfl⟩
  simp only [show decide ((c.toNat : Int) = 86) = false from decide_eq_false (by omega)]
  conv => whnf
  by_cases h116 : c.toNat = 116
  · simp only [show decide ((c.toNat : Int) = 116) = true from decide_eq_true (by omega)]
    conv => whnf
    exact ⟨.im _, by unfold rsize; rw [h116]; rfl⟩
  simp only [show decide ((c.toNat : Int) = 116) = false from decide_eq_false (by omega)]
  conv => whnf
  by_cases h98 : c.toNat = 98
  · simp only [show decide ((c.toNat : Int) = 98) = true from decide_eq_true (by omega)]
    conv => whnf
    exact ⟨.im _, by unfold rsize; rw [h98]; rfl⟩
  simp only [show decide ((c.toNat : Int) = 98) = false from decide_eq_false (by omega)]
  conv => whnf
  by_cases h66 : c.toNat = 66
  · simp only [show decide ((c.toNat : Int) = 66) = true from decide_eq_true (by omega)]
    conv => whnf
    exact ⟨.im _, by unfold rsize; rw [h66]; rfl⟩
  simp only [show decide ((c.toNat : Int) = 66) = false from decide_eq_false (by omega)]
  conv => whnf
  by_cases h115 : c.toNat = 115
  · simp only [show decide ((c.toNat : Int) = 115) = true from decide_eq_true (by omega)]
    conv => whnf
    exact ⟨.im _, by unfold rsize; rw [h115]; rfl⟩
  simp only [show decide ((c.toNat : Int) = 115) = false from decide_eq_false (by omega)]
  conv => whnf
  by_cases h117 : c.toNat = 117
  · simp only [show decide ((c.toNat : Int) = 117) = true from decide_eq_true (by omega)]
    conv => whnf
    exact ⟨.im _, by unfold rsize; rw [h117]; rfl⟩
  simp only [show decide ((c.toNat : Int) = 117) = false from decide_eq_false (by omega)]
  conv => whnf
  by_cases h73 : c.toNat = 73
  · simp only [show decide ((c.toNat : Int) = 73) = true from decide_eq_true (by omega)]
    conv => whnf
    exact ⟨.im _, by unfold rsize; rw [h73]; rfl⟩
  simp only [show decide ((c.toNat : Int) = 73) = false from decide_eq_false (by omega)]
  conv => whnf
  by_cases h105 : c.toNat = 105
  · simp only [show decide ((c.toNat : Int) = 105) = true from decide_eq_true (by omega)]
    conv => whnf
    exact ⟨.im _, by unfold rsize; rw [h105]; rfl⟩
  simp only [show decide ((c.toNat : Int) = 105) = false from decide_eq_false (by omega)]
  conv => whnf
  by_cases h102 : c.toNat = 102
  · simp only [show decide ((c.toNat : Int) = 102) = true from decide_eq_true (by omega)]
    conv => whnf
    exact ⟨.im _, by unfold rsize; rw [h102]; rfl⟩
  simp only [show decide ((c.toNat : Int) = 102) = false from decide_eq_false (by omega)]
  conv => whnf
  by_cases h68 : c.toNat = 68
  · simp only [show decide ((c.toNat : Int) = 68) = true from decide_eq_true (by omega)]
    conv => whnf
    exact ⟨.im _, by unfold rsize; rw [h68]; rfl⟩
  simp only [show decide ((c.toNat : Int) = 68) = false from decide_eq_false (by omega)]
  conv => whnf
  by_cases h108 : c.toNat = 108
  · simp only [show decide ((c.toNat : Int) = 108) = true from decide_eq_true (by omega)]
    conv => whnf
    exact ⟨.im _, by unfold rsize; rw [h108]; rfl⟩
  simp only [show decide ((c.toNat : Int) = 108) = false from decide_eq_false (by omega)]
  conv => whnf
  by_cases h100 : c.toNat = 100
  · simp only [show decide ((c.toNat : Int) = 100) = true from decide_eq_true (by omega)]
    conv => whnf
    exact ⟨.im _, by unfold rsize; rw [h100]; rfl⟩
  simp only [show decide ((c.toNat : Int) = 100) = false from decide_eq_false (by omega)]
  conv => whnf
  by_cases h84 : c.toNat = 84
  · simp only [show decide ((c.toNat : Int) = 84) = true from decide_eq_true (by omega)]
    conv => whnf
    exact ⟨.im _, by unfold rsize; rw [h84]; rfl⟩
  simp only [show decide ((c.toNat : Int) = 84) = false from decide_eq_false (by omega)]
  conv => whnf
  exact ⟨.im _, by unfold rsize; rw [show szL.lookup c.toNat = none by simp only [szL, List.lookup, beq_false_of_ne h86, beq_false_of_ne h116, beq_false_of_ne h98, beq_false_of_ne h66, beq_false_of_ne h115, beq_false_of_ne h117, beq_false_of_ne h73, beq_false_of_ne h105, beq_false_of_ne h102, beq_false_of_ne h68, beq_false_of_ne h108, beq_false_of_ne h100, beq_false_of_ne h84]]; rfl⟩
end Go.Abs.Sig

/-! R4 -/
namespace Go.Abs.Sig
open Go.RowKit Go.Abs
set_option linter.unusedSimpArgs false
set_option linter.unusedVariables false
set_option maxRecDepth 8000
attribute [local irreducible] StCall StYield WPc Weak IterOf Lp2 szL

/-- A text, a number, an error. -/
theorem sie_free {s : List UInt8} {d e : Int} : (V.tup [.str s, .int .i64 d, .int .i64 e]).Free := .tup _ fun v hv => by
  simp only [List.mem_cons, List.not_mem_nil, or_false] at hv
  rcases hv with rfl | rfl | rfl
  · exact .str _
  · exact .im _
  · exact .im _
def RVal (G : Nat → Option (List V)) (r : Nat) : Prop := ∀ (s : List UInt8), s.length ≤ maxStr → ∀ H, Call2 Go.Proofs.Tryd.prog G 96 [.str s, .int .i64 (32 - (r : Int))] H fun x H' => H' = H ∧ ∃ d, x = .tup [.str (valF r s).1, .int .i64 d, .int .i64 (valF r s).2]

def roS (s : List UInt8) (dep : Int) (b : Bool) (dd : Int) : S2 := headS 47 ([.str s, .int .i64 dep, .bool b, .bad, .bad, .bad, .bad, .bad, .im (.int .i64 dd)] ++ List.replicate 38 .bad) [] [] none

theorem ttake_err (n : Nat) (s : List UInt8) : (ttake n s).2.2 ≠ 0 → (ttake n s).2.2 = 2 := by
  unfold ttake
  split
  · rename_i h
    intro _
    revert h
    unfold ntake
    split <;> simp
  · unfold skipF
    split <;> simp

theorem row_ct (G : Nat → Option (List V)) (r : Nat) (hval : RVal G r) (b : Bool) (one : List UInt8 → List UInt8 × Int) (hone : one = if b then fldF (valF r) else valF r) (s : List UInt8) (hs : s.length ≤ maxStr) (H : Heap) :
    Call2 Go.Proofs.Tryd.prog G 87 [.str s, .int .i64 (32 - (r : Int)), .bool b] H fun x H' => H' = H ∧ ∃ d, x = .tup [.int .i64 d, .int .i64 (itemsF one s.length s)] := by
  refine Call2.free (fun x hx => by
    simp only [List.mem_cons, List.not_mem_nil, or_false] at hx
    rcases hx with rfl | rfl | rfl
    · exact .str _
    · exact .im _
    · exact .im _) ?_ H
  refine stCall2 Go.Proofs.Tryd.func87 rfl (by decide) ?_
  have hlen : ∀ t, (one t).2 = 0 → (one t).1.length < t.length := by
    subst hone
    cases b
    · exact valF_len r
    · exact fldF_len (valF_len r)
  generalize hdep : 32 - (r : Int) = dep
  conv => whnf
  intro hw
  refine wpc_loop2 (fun n1 s1 => ∃ (q : Nat) (t : List UInt8) (dd : Int), n1 = t.length ∧ t.length ≤ q ∧ t.length ≤ maxStr ∧ s1 = roS t dep b dd ∧ itemsF one q t = itemsF one s.length s) s.length (roS s dep b dep) ?_ ⟨s.length, s, dep, rfl, Nat.le_refl _, hs, rfl, rfl⟩ ?_ ?_
  · exact weak2 hw rfl ⟨.str _, .im _, .im _, .im _, trivial⟩ (.nil _) (fun id hid => by cases hid) rfl (fun id hid => by cases hid)
  · rintro n1 s1 ⟨q, t, dd, _, _, _, rfl, _⟩
    exact ⟨⟨Nat.le_refl 47, fun x hx => by cases hx⟩, rfl, Nat.le_refl _, rfl⟩
  · rintro n1 s1 ⟨q, t, dd, rfl, hq, htl, rfl, hinv⟩
    by_cases ht : t ≠ []
    · have hq0 : q ≠ 0 := fun h => by
        subst h
        exact ht (List.eq_nil_of_length_eq_zero (by omega))
      obtain ⟨q, rfl⟩ := Nat.exists_eq_succ_of_ne_zero hq0
      rw [itemsF, if_neg ht] at hinv
      have hpos : 0 < t.length := List.length_pos_iff.2 ht
      conv => whnf
      refine br_t (decide_eq_true (by omega)) ?_
      conv => whnf
      cases b with
      | true =>
        have h1 := rshort_ct G t htl
        have hl := (ttake_len 1 t).1
        have herr := ttake_err 1 t
        have hl1 := hlen t
        subst hone
        simp only [if_true] at hinv hl1 ⊢
        have hfl : fldF (valF r) t = if (ttake 1 t).2.2 ≠ 0 then ([], (ttake 1 t).2.2) else valF r (ttake 1 t).2.1 := rfl
        rw [hfl] at hinv hl1
        generalize ttake 1 t = x at h1 hl herr hinv hl1
        obtain ⟨a, rest, e⟩ := x
        unfold ssV at h1
        simp only at hl herr hinv hl1
        conv => whnf
        refine Call2.mono (h1 _) fun r0 H0 h => ?_
        obtain ⟨h1, h2⟩ := h
        rw [h1, h2]
        clear h1 h2 r0 H0
        conv => whnf
        by_cases he : e ≠ 0
        · refine br_t (decide_eq_true he) ?_
          rw [if_pos he] at hinv
          simp only [herr he] at hinv
          conv => whnf
          exact ⟨free_tup2 (.im _) (.im _), 0, by rw [← hinv]; rfl⟩
        · refine br_f (decide_eq_false he) ?_
          rw [if_neg he] at hinv hl1
          have hv := hval rest (Nat.le_trans hl htl)
          rw [hdep] at hv
          have hsh1 := hl1
          generalize valF r rest = z at hv hinv hsh1
          obtain ⟨l1, bad⟩ := z
          simp only at hv hinv hsh1
          have hv := hv []
          conv => whnf
          refine Call2.mono hv fun r0 H0 h => ?_
          obtain ⟨h1, d2, h2⟩ := h
          rw [h1, h2]
          clear h1 h2 r0 H0
          conv => whnf
          by_cases hb2 : bad = 2
          · refine br_t (decide_eq_true hb2) ?_
            rw [if_pos hb2] at hinv
            conv => whnf
            exact ⟨free_tup2 (.im _) (.im _), 0, by rw [← hinv]; rfl⟩
          · refine br_f (decide_eq_false hb2) ?_
            rw [if_neg hb2] at hinv
            conv => whnf
            by_cases hb0 : bad ≠ 0
            · refine br_t (decide_eq_true hb0) ?_
              rw [if_pos hb0] at hinv
              conv => whnf
              exact ⟨free_tup2 (.im _) (.im _), 0, by rw [← hinv]; rfl⟩
            · refine br_f (decide_eq_false hb0) ?_
              rw [if_neg hb0] at hinv
              have hb00 : bad = 0 := by simpa using hb0
              have hll := hsh1 hb00
              conv => whnf
              by_cases hgt : dd < d2
              · refine br_t (decide_eq_true hgt) ?_
                conv => whnf
                intro hw3
                refine ⟨l1.length, roS l1 dep _ d2, hll, ?_, q, l1, d2, rfl, by omega, by omega, rfl, hinv⟩
                exact weak2 hw3 rfl ⟨.str _, .im _, .im _, .im _, trivial⟩ (.nil _) (fun id hid => by cases hid) rfl (fun id hid => by cases hid)
              · refine br_f (decide_eq_false hgt) ?_
                conv => whnf
                intro hw3
                refine ⟨l1.length, roS l1 dep _ dd, hll, ?_, q, l1, dd, rfl, by omega, by omega, rfl, hinv⟩
                exact weak2 hw3 rfl ⟨.str _, .im _, .im _, .im _, trivial⟩ (.nil _) (fun id hid => by cases hid) rfl (fun id hid => by cases hid)
      | false =>
        have hv := hval t htl []
        rw [hdep] at hv
        have hsh1 := hlen t
        subst hone
        simp only [Bool.false_eq_true, if_false] at hinv hsh1 ⊢
        generalize valF r t = z at hv hinv hsh1
        obtain ⟨l1, bad⟩ := z
        simp only at hv hinv hsh1
        conv => whnf
        refine Call2.mono hv fun r0 H0 h => ?_
        obtain ⟨h1, d2, h2⟩ := h
        rw [h1, h2]
        clear h1 h2 r0 H0
        conv => whnf
        by_cases hb2 : bad = 2
        · refine br_t (decide_eq_true hb2) ?_
          rw [if_pos hb2] at hinv
          conv => whnf
          exact ⟨free_tup2 (.im _) (.im _), 0, by rw [← hinv]; rfl⟩
        · refine br_f (decide_eq_false hb2) ?_
          rw [if_neg hb2] at hinv
          conv => whnf
          by_cases hb0 : bad ≠ 0
          · refine br_t (decide_eq_true hb0) ?_
            rw [if_pos hb0] at hinv
            conv => whnf
            exact ⟨free_tup2 (.im _) (.im _), 0, by rw [← hinv]; rfl⟩
          · refine br_f (decide_eq_false hb0) ?_
            rw [if_neg hb0] at hinv
            have hb00 : bad = 0 := by simpa using hb0
            have hll := hsh1 hb00
            conv => whnf
            by_cases hgt : dd < d2
            · refine br_t (decide_eq_true hgt) ?_
              conv => whnf
              intro hw3
              refine ⟨l1.length, roS l1 dep _ d2, hll, ?_, q, l1, d2, rfl, by omega, by omega, rfl, hinv⟩
              exact weak2 hw3 rfl ⟨.str _, .im _, .im _, .im _, trivial⟩ (.nil _) (fun id hid => by cases hid) rfl (fun id hid => by cases hid)
            · refine br_f (decide_eq_false hgt) ?_
              conv => whnf
              intro hw3
              refine ⟨l1.length, roS l1 dep _ dd, hll, ?_, q, l1, dd, rfl, by omega, by omega, rfl, hinv⟩
              exact weak2 hw3 rfl ⟨.str _, .im _, .im _, .im _, trivial⟩ (.nil _) (fun id hid => by cases hid) rfl (fun id hid => by cases hid)
    · have ht0 : t = [] := by simpa using ht
      subst ht0
      have hz : itemsF one q [] = 0 := by cases q <;> simp [itemsF]
      rw [hz] at hinv
      conv => whnf
      exact ⟨free_tup2 (.im _) (.im _), dd, by rw [← hinv]; rfl⟩
end Go.Abs.Sig

/-! R5 -/
namespace Go.Abs.Sig
open Go.RowKit Go.Abs
set_option linter.unusedSimpArgs false
set_option linter.unusedVariables false
set_option maxRecDepth 8000
attribute [local irreducible] StCall StYield WPc Weak IterOf Lp2 szL

theorem ttake_len0 (n : Nat) (s : List UInt8) : (ttake n s).1.length ≤ s.length := by
  unfold ttake
  split
  · exact Nat.zero_le _
  · exact Nat.le_trans (skipF_len _ _).1 (ntake_len s n).1
theorem ttake_left (n : Nat) (s : List UInt8) : (ttake n s).2.2 ≠ 0 → (ttake n s).2.1 = [] := by
  unfold ttake
  split
  · intro _; rfl
  · unfold skipF
    split <;> simp
theorem lookup_memN {k n : Nat} : ∀ {l : List (Nat × Nat)}, l.lookup k = some n → (k, n) ∈ l
  | [], h => by simp at h
  | (a, m) :: l, h => by
    rw [List.lookup_cons] at h
    by_cases hk : k = a
    · subst hk
      simp at h
      subst h
      simp
    · have : (k == a) = false := by simpa using hk
      rw [this] at h
      exact List.mem_cons_of_mem _ (lookup_memN h)
theorem ttake4_with (dep : Int) (one : List UInt8 → List UInt8 × Int) (t : List UInt8) : withF dep one t = if (ttake 4 t).2.2 ≠ 0 then ([], (ttake 4 t).2.2) else if dep > 32 then ([], 5) else ((ttake 4 t).2.1, itemsF one (ttake 4 t).1.length (ttake 4 t).1) := by
  unfold withF ttake
  by_cases h : (ntake t 4).2.2 ≠ 0
  · rw [if_pos h, if_pos h]
    simp only
    rw [if_pos h]
  · rw [if_neg h, if_neg h]

theorem szL_le {k n : Nat} (h : szL.lookup k = some n) : n ≤ 8 := by
  have h := lookup_memN h
  unfold szL at h
  simp only [List.mem_cons, Prod.mk.injEq, List.not_mem_nil, or_false] at h
  omega

theorem rvalue_core (G : Nat → Option (List V)) (r : Nat) (dep dep1 : Int) (hdep : IntKind.i64.wrap (dep + 1) = dep1) (hdp : dep ≤ 32) (hd1 : dep1 = dep + 1) (one1 one2 : List UInt8 → List UInt8 × Int) (s : List UInt8) (hs : s.length ≤ maxStr)
    (hrow : dep < 32 → ∀ (t : List UInt8), t.length ≤ maxStr → ∀ (b : Bool) H, Call2 Go.Proofs.Tryd.prog G 87 [.str t, .int .i64 dep1, .bool b] H fun x H' => H' = H ∧ ∃ d, x = .tup [.int .i64 d, .int .i64 (itemsF (if b then one2 else one1) t.length t)]) (H : Heap) :
    Call2 Go.Proofs.Tryd.prog G 96 [.str s, .int .i64 dep] H fun x H' => H' = H ∧ ∃ d, x = .tup [.str (valB (withF dep1 one1) (withF dep1 one2) s).1, .int .i64 d, .int .i64 (valB (withF dep1 one1) (withF dep1 one2) s).2] := by
  refine Call2.free (fun x hx => by
    simp only [List.mem_cons, List.not_mem_nil, or_false] at hx
    rcases hx with rfl | rfl
    · exact .str _
    · exact .im _) ?_ H
  refine stCall2 Go.Proofs.Tryd.func96 rfl (by decide) ?_
  cases s with
  | nil =>
    conv => whnf
    exact ⟨sie_free, 0, rfl⟩
  | cons c t =>
    have hl' : t.length ≤ maxStr := by simp only [List.length_cons] at hs; omega
    have hml : t.length ≤ 1152921504606846976 := hl'
    have hdr : List.drop (1 : Int).toNat (List.take (((c :: t).length : Nat) : Int).toNat (c :: t)) = t := by rw [Int.toNat_natCast, List.take_length]; rfl
    have hsz := rsize_ct G c
    cases hlk : szL.lookup c.toNat with
    | some n =>
      rw [show rsize c = (n : Int) by unfold rsize; rw [hlk]] at hsz
      have hres : valB (withF dep1 one1) (withF dep1 one2) (c :: t) = (skipF t n).2 := by unfold valB; simp only [hlk]
      have hn : n ≤ 8 := szL_le hlk
      have hwn : IntKind.i64.wrap (1 + (n : Int)) = ((1 + n : Nat) : Int) := by rw [wrap_i64 (by omega) (by omega)]; omega
      rw [hres]
      unfold skipF
      conv => whnf
      refine Call2.mono (hsz _) fun r0 H0 h => ?_
      obtain ⟨h1, h2⟩ := h
      rw [h1, h2]
      clear h1 h2 r0 H0
      conv => whnf
      rw [hwn]
      by_cases hlt : t.length < n
      · refine br_t (decide_eq_true (by simp only [List.length_cons]; omega)) ?_
        conv => whnf
        rw [if_pos hlt]
        exact ⟨sie_free, 0, rfl⟩
      · refine br_f (decide_eq_false (by simp only [List.length_cons]; omega)) ?_
        rw [if_neg hlt]
        conv => whnf
        rw [hwn]
        refine ⟨⟨by omega, by simp only [List.length_cons]; omega, by omega⟩, ?_⟩
        have h2 : List.drop (((1 + n : Nat) : Int)).toNat (List.take (((c :: t).length : Nat) : Int).toNat (c :: t)) = t.drop n := by
          rw [Int.toNat_natCast, Int.toNat_natCast, List.take_length, Nat.add_comm]; rfl
        rw [h2]
        conv => whnf
        exact ⟨sie_free, dep, rfl⟩
    | none =>
      have hx : (if c = 83 ∨ c = 120 then (ttake 4 t).2 else if c = 65 then withF dep1 one1 t else if c = 70 then withF dep1 one2 t else ([], 3)) = valB (withF dep1 one1) (withF dep1 one2) (c :: t) := by unfold valB; simp only [hlk]
      rw [← hx]
      clear hx
      rw [show rsize c = -1 by unfold rsize; rw [hlk]] at hsz
      have hin := rinside_ct G t hl'
      conv => whnf
      refine Call2.mono (hsz _) fun r0 H0 h => ?_
      obtain ⟨h1, h2⟩ := h
      rw [h1, h2]
      clear h1 h2 r0 H0
      conv => whnf
      by_cases h83 : c.toNat = 83
      · have hc : c = 83 := (u8_ne (by decide)).1 h83
        rw [if_pos (.inl hc)]
        simp only [show decide ((c.toNat : Int) ≠ 83) = false from decide_eq_false (by omega)]
        conv => whnf
        refine ⟨⟨by omega, by simp only [List.length_cons]; omega, by omega⟩, ?_⟩
        rw [hdr]
        have hal := ttake_len0 4 t
        have hlf := ttake_left 4 t
        generalize ttake 4 t = z at hin hal hlf ⊢
        obtain ⟨a, left, e⟩ := z
        unfold ssV at hin
        simp only at hal hlf ⊢
        conv => whnf
        refine Call2.mono (hin _) fun r0 H0 h => ?_
        obtain ⟨h1, h2⟩ := h
        rw [h1, h2]
        clear h1 h2 r0 H0
        conv => whnf
        by_cases he : e ≠ 0
        · refine br_t (decide_eq_true he) ?_
          conv => whnf
          exact ⟨sie_free, 0, by rw [hlf he]; rfl⟩
        refine br_f (decide_eq_false he) ?_
        have he0 : e = 0 := by simpa using he
        conv => whnf
        simp only [show decide ((c.toNat : Int) = 83) = true from decide_eq_true (by omega)]
        conv => whnf
        exact ⟨sie_free, dep, by rw [he0]; rfl⟩
      simp only [show decide ((c.toNat : Int) ≠ 83) = true from decide_eq_true (by omega)]
      conv => whnf
      by_cases h120 : c.toNat = 120
      · have hc : c = 120 := (u8_ne (by decide)).1 h120
        rw [if_pos (.inr hc)]
        simp only [show decide ((c.toNat : Int) ≠ 120) = false from decide_eq_false (by omega)]
        conv => whnf
        refine ⟨⟨by omega, by simp only [List.length_cons]; omega, by omega⟩, ?_⟩
        rw [hdr]
        have hal := ttake_len0 4 t
        have hlf := ttake_left 4 t
        generalize ttake 4 t = z at hin hal hlf ⊢
        obtain ⟨a, left, e⟩ := z
        unfold ssV at hin
        simp only at hal hlf ⊢
        conv => whnf
        refine Call2.mono (hin _) fun r0 H0 h => ?_
        obtain ⟨h1, h2⟩ := h
        rw [h1, h2]
        clear h1 h2 r0 H0
        conv => whnf
        by_cases he : e ≠ 0
        · refine br_t (decide_eq_true he) ?_
          conv => whnf
          exact ⟨sie_free, 0, by rw [hlf he]; rfl⟩
        refine br_f (decide_eq_false he) ?_
        have he0 : e = 0 := by simpa using he
        conv => whnf
        simp only [show decide ((c.toNat : Int) = 83) = false from decide_eq_false (by omega)]
        conv => whnf
        simp only [show decide ((c.toNat : Int) = 120) = true from decide_eq_true (by omega)]
        conv => whnf
        exact ⟨sie_free, dep, by rw [he0]; rfl⟩
      simp only [show decide ((c.toNat : Int) ≠ 120) = true from decide_eq_true (by omega)]
      conv => whnf
      by_cases h65 : c.toNat = 65
      · have hc : c = 65 := (u8_ne (by decide)).1 h65
        rw [if_neg (by rw [hc]; decide), if_pos hc, ttake4_with]
        simp only [show decide ((c.toNat : Int) ≠ 65) = false from decide_eq_false (by omega)]
        conv => whnf
        refine ⟨⟨by omega, by simp only [List.length_cons]; omega, by omega⟩, ?_⟩
        rw [hdr]
        have hal := ttake_len0 4 t
        have hlf := ttake_left 4 t
        generalize ttake 4 t = z at hin hal hlf ⊢
        obtain ⟨a, left, e⟩ := z
        unfold ssV at hin
        simp only at hal hlf ⊢
        conv => whnf
        refine Call2.mono (hin _) fun r0 H0 h => ?_
        obtain ⟨h1, h2⟩ := h
        rw [h1, h2]
        clear h1 h2 r0 H0
        conv => whnf
        by_cases he : e ≠ 0
        · refine br_t (decide_eq_true he) ?_
          rw [if_pos he]
          conv => whnf
          exact ⟨sie_free, 0, rfl⟩
        refine br_f (decide_eq_false he) ?_
        have he0 : e = 0 := by simpa using he
        conv => whnf
        simp only [show decide ((c.toNat : Int) = 83) = false from decide_eq_false (by omega)]
        conv => whnf
        simp only [show decide ((c.toNat : Int) = 120) = false from decide_eq_false (by omega)]
        conv => whnf
        rw [if_neg he]
        by_cases hd : 32 ≤ dep
        · refine br_t (decide_eq_true hd) ?_
          conv => whnf
          rw [if_pos (by omega)]
          exact ⟨sie_free, 0, rfl⟩
        · refine br_f (decide_eq_false hd) ?_
          rw [if_neg (by omega)]
          conv => whnf
          rw [hdep]
          simp only [show decide ((c.toNat : Int) = 70) = false from decide_eq_false (by omega)]
          have hr := hrow (by omega) a (Nat.le_trans hal hl') false []
          simp only [Bool.false_eq_true, if_false] at hr
          refine Call2.mono hr fun r0 H0 h => ?_
          obtain ⟨h1, d2, h2⟩ := h
          rw [h1, h2]
          clear h1 h2 r0 H0
          conv => whnf
          exact ⟨sie_free, d2, rfl⟩
      simp only [show decide ((c.toNat : Int) ≠ 65) = true from decide_eq_true (by omega)]
      conv => whnf
      by_cases h70 : c.toNat = 70
      · have hc : c = 70 := (u8_ne (by decide)).1 h70
        rw [if_neg (by rw [hc]; decide), if_neg (by rw [hc]; decide), if_pos hc, ttake4_with]
        simp only [show decide ((c.toNat : Int) ≠ 70) = false from decide_eq_false (by omega)]
        conv => whnf
        refine ⟨⟨by omega, by simp only [List.length_cons]; omega, by omega⟩, ?_⟩
        rw [hdr]
        have hal := ttake_len0 4 t
        have hlf := ttake_left 4 t
        generalize ttake 4 t = z at hin hal hlf ⊢
        obtain ⟨a, left, e⟩ := z
        unfold ssV at hin
        simp only at hal hlf ⊢
        conv => whnf
        refine Call2.mono (hin _) fun r0 H0 h => ?_
        obtain ⟨h1, h2⟩ := h
        rw [h1, h2]
        clear h1 h2 r0 H0
        conv => whnf
        by_cases he : e ≠ 0
        · refine br_t (decide_eq_true he) ?_
          rw [if_pos he]
          conv => whnf
          exact ⟨sie_free, 0, rfl⟩
        refine br_f (decide_eq_false he) ?_
        have he0 : e = 0 := by simpa using he
        conv => whnf
        simp only [show decide ((c.toNat : Int) = 83) = false from decide_eq_false (by omega)]
        conv => whnf
        simp only [show decide ((c.toNat : Int) = 120) = false from decide_eq_false (by omega)]
        conv => whnf
        rw [if_neg he]
        by_cases hd : 32 ≤ dep
        · refine br_t (decide_eq_true hd) ?_
          conv => whnf
          rw [if_pos (by omega)]
          exact ⟨sie_free, 0, rfl⟩
        · refine br_f (decide_eq_false hd) ?_
          rw [if_neg (by omega)]
          conv => whnf
          rw [hdep]
          simp only [show decide ((c.toNat : Int) = 70) = true from decide_eq_true (by omega)]
          have hr := hrow (by omega) a (Nat.le_trans hal hl') true []
          simp only [if_true] at hr
          refine Call2.mono hr fun r0 H0 h => ?_
          obtain ⟨h1, d2, h2⟩ := h
          rw [h1, h2]
          clear h1 h2 r0 H0
          conv => whnf
          exact ⟨sie_free, d2, rfl⟩
      simp only [show decide ((c.toNat : Int) ≠ 70) = true from decide_eq_true (by omega)]
      conv => whnf
      rw [if_neg (by rintro (rfl | rfl); exact h83 rfl; exact h120 rfl), if_neg (by rintro rfl; exact h65 rfl), if_neg (by rintro rfl; exact h70 rfl)]
      exact ⟨sie_free, 0, rfl⟩
end Go.Abs.Sig

/-! R6 -/
namespace Go.Abs.Sig
open Go.RowKit Go.Abs
set_option linter.unusedSimpArgs false
set_option linter.unusedVariables false
set_option maxRecDepth 8000
attribute [local irreducible] StCall StYield WPc Weak IterOf Lp2 szL

theorem rvalR_ct (G : Nat → Option (List V)) : ∀ r, r ≤ 31 → RVal G r := by
  intro r
  induction r with
  | zero =>
    intro _ s hs H
    exact rvalue_core G 0 _ 33 rfl (by omega) (by omega) (fun _ => ([], 0)) (fun _ => ([], 0)) s hs (fun h => by omega) H
  | succ r ih =>
    intro hr s hs H
    have ih := ih (by omega)
    refine rvalue_core G r _ (32 - (r : Int)) (by rw [wrap_i64 (by omega) (by omega)]; omega) (by omega) (by omega) (valF r) (fldF (valF r)) s hs (fun _ t ht b H => ?_) H
    cases b
    · exact row_ct G r ih false (valF r) rfl t ht H
    · exact row_ct G r ih true (fldF (valF r)) rfl t ht H

theorem rtable_ct (G : Nat → Option (List V)) (s : List UInt8) (hs : s.length ≤ maxStr) (H : Heap) : Call2 Go.Proofs.Tryd.prog G 80 [.str s] H fun x H' => H' = H ∧ ∃ d, x = .tup [.str (tabF s).1, .int .i64 d, .int .i64 (tabF s).2] := by
  refine Call2.free (fun x hx => by
    simp only [List.mem_cons, List.not_mem_nil, or_false] at hx
    subst hx
    exact .str _) ?_ H
  refine stCall2 Go.Proofs.Tryd.func80 rfl (by decide) ?_
  have hin := rinside_ct G s hs
  have hal := ttake_len0 4 s
  unfold tabF
  rw [ttake4_with]
  generalize ttake 4 s = z at hin hal ⊢
  obtain ⟨a, left, e⟩ := z
  unfold ssV at hin
  simp only at hal ⊢
  have hr := row_ct G 31 (rvalR_ct G 31 (by omega)) true (fldF (valF 31)) rfl a (Nat.le_trans hal hs) []
  conv => whnf
  refine Call2.mono (hin _) fun r0 H0 h => ?_
  obtain ⟨h1, h2⟩ := h
  rw [h1, h2]
  clear h1 h2 r0 H0
  conv => whnf
  by_cases he : e ≠ 0
  · refine br_t (decide_eq_true he) ?_
    rw [if_pos he]
    conv => whnf
    exact ⟨sie_free, 0, rfl⟩
  · refine br_f (decide_eq_false he) ?_
    rw [if_neg he, if_neg (by omega)]
    conv => whnf
    refine Call2.mono hr fun r0 H0 h => ?_
    obtain ⟨h1, d2, h2⟩ := h
    rw [h1, h2]
    clear h1 h2 r0 H0
    conv => whnf
    exact ⟨sie_free, d2, rfl⟩

theorem tabF_len (s : List UInt8) : (tabF s).2 = 0 → (tabF s).1.length ≤ s.length := withF_len _ _ s

theorem rtbl_ct (G : Nat → Option (List V)) (s : List UInt8) (hs : s.length ≤ maxStr) (H : Heap) : Call2 Go.Proofs.Tryd.prog G 76 [.str s] H fun x H' => H' = H ∧ x = ssV (tblF s) := by
  refine Call2.free (fun x hx => by
    simp only [List.mem_cons, List.not_mem_nil, or_false] at hx
    subst hx
    exact .str _) ?_ H
  refine stCall2 Go.Proofs.Tryd.func76 rfl (by decide) ?_
  have hs' : s.length ≤ 1152921504606846976 := hs
  have ht := rtable_ct G s hs []
  have hl := tabF_len s
  unfold tblF takenF
  generalize tabF s = x at ht hl
  obtain ⟨rest, e⟩ := x
  simp only at hl ⊢
  conv => whnf
  refine Call2.mono ht fun r0 H0 h => ?_
  obtain ⟨h1, d2, h2⟩ := h
  rw [h1, h2]
  clear h1 h2 r0 H0
  conv => whnf
  by_cases he : e ≠ 0
  · refine br_t (decide_eq_true he) ?_
    rw [if_pos he]
    conv => whnf
    exact ⟨ssV_free ([], [], e), rfl⟩
  · refine br_f (decide_eq_false he) ?_
    rw [if_neg he]
    have hl := hl (by simpa using he)
    have hw : IntKind.i64.wrap ((s.length : Int) - (rest.length : Int)) = ((s.length - rest.length : Nat) : Int) := by rw [wrap_i64 (by omega) (by omega)]; omega
    conv => whnf
    rw [hw]
    refine ⟨⟨by omega, by omega, by omega⟩, ?_⟩
    conv => whnf
    exact ⟨ssV_free (s.take (s.length - rest.length), rest, 0), rfl⟩

def deepE (s : List UInt8) : Int := if (tabF s).2 ≠ 0 then (tabF s).2 else if (tabF s).1 ≠ [] then 3 else 0
theorem rdeep_ct (G : Nat → Option (List V)) (s : List UInt8) (hs : s.length ≤ maxStr) (H : Heap) : Call2 Go.Proofs.Tryd.prog G 61 [.str s] H fun x H' => H' = H ∧ ∃ d, x = .tup [.int .i64 d, .int .i64 (deepE s)] := by
  refine Call2.free (fun x hx => by
    simp only [List.mem_cons, List.not_mem_nil, or_false] at hx
    subst hx
    exact .str _) ?_ H
  refine stCall2 Go.Proofs.Tryd.func61 rfl (by decide) ?_
  have ht := rtable_ct G s hs []
  unfold deepE
  generalize tabF s = x at ht
  obtain ⟨rest, e⟩ := x
  simp only
  conv => whnf
  refine Call2.mono ht fun r0 H0 h => ?_
  obtain ⟨h1, d2, h2⟩ := h
  rw [h1, h2]
  clear h1 h2 r0 H0
  conv => whnf
  by_cases he : e ≠ 0
  · refine br_t (decide_eq_true he) ?_
    rw [if_pos he]
    conv => whnf
    exact ⟨free_tup2 (.im _) (.im _), 0, rfl⟩
  · refine br_f (decide_eq_false he) ?_
    rw [if_neg he]
    conv => whnf
    by_cases hr : rest ≠ []
    · have hp : 0 < rest.length := List.length_pos_iff.2 hr
      refine br_t (decide_eq_true (by simp only; omega)) ?_
      rw [if_pos hr]
      conv => whnf
      exact ⟨free_tup2 (.im _) (.im _), 0, rfl⟩
    · have hr0 : rest = [] := by simpa using hr
      subst hr0
      rw [if_neg hr]
      conv => whnf
      exact ⟨free_tup2 (.im _) (.im _), d2, rfl⟩

/-- Both ask the same of a table. -/
theorem tbBad_deep (s : List UInt8) : tbBad s = decide (deepE s ≠ 0) := by
  unfold tbBad deepE tblF takenF
  by_cases he : (tabF s).2 ≠ 0
  · rw [if_pos he, if_pos he]
    simp [he, bsel]
  · rw [if_neg he, if_neg he]
    have he0 : (tabF s).2 = 0 := by simpa using he
    by_cases hr : (tabF s).1 ≠ []
    · rw [if_pos hr]
      simp [hr, bsel]
    · rw [if_neg hr]
      have hr0 : (tabF s).1 = [] := by simpa using hr
      have hne : s ≠ [] := by
        rintro rfl
        exact absurd he0 (by decide)
      simp [hr0, bsel, hne]
end Go.Abs.Sig

/-! M8 -/
namespace Go.Abs.Sig
open Go.RowKit Go.Abs
set_option linter.unusedSimpArgs false
set_option linter.unusedVariables false
set_option maxRecDepth 8000
attribute [local irreducible] StCall StYield WPc Weak IterOf Lp2

def Rng (v : Val') : Prop := 0 ≤ v.1 ∧ v.1 < 18446744073709551616

theorem wrap_u64 {n : Int} (h0 : 0 ≤ n) (h1 : n < 18446744073709551616) : IntKind.u64.wrap n = n := by
  simp only [IntKind.wrap, IntKind.bits, IntKind.signed]
  simp
  omega

theorem putL_fst : ∀ (k : Nat) (v : Int) (s : List UInt8), 0 ≤ v → v < 18446744073709551616 → (putL k v s).1 = v / (256 ^ k : Int)
  | 0, v, s, _, _ => by simp [putL]
  | k + 1, v, s, h0, h1 => by
    have ht : v.tdiv 256 = v / 256 := Int.tdiv_eq_ediv_of_nonneg h0
    have hw : IntKind.u64.wrap (v.tdiv 256) = v / 256 := by rw [ht]; exact wrap_u64 (by omega) (by omega)
    unfold putL
    rw [hw, putL_fst k _ _ (by omega) (by omega), Int.ediv_ediv_of_nonneg (by omega), Int.pow_succ, Int.mul_comm]

theorem rput_bad {n : Nat} {v : Val'} (hv : Rng v) : decide ((rput n v.1).2 ≠ 0) = decide (0 < v.1 / (256 ^ n : Int)) := by
  unfold rput
  rw [putL_fst n v.1 [] hv.1 hv.2]
  split
  · rename_i h
    rw [h]; rfl
  · rename_i h
    simp only [Bool.not_eq_true] at h
    rw [h]; rfl
theorem fdiv_pos {a b : Int} (ha : 0 ≤ a) (hb : 0 < b) : decide (a.fdiv b ≠ 0) = decide (0 < a / b) := by
  rw [Int.fdiv_eq_ediv_of_nonneg _ (by omega), decide_eq_decide]
  have := Int.ediv_nonneg ha (Int.le_of_lt hb)
  omega

theorem len_pos (l : List UInt8) : decide ((0 : Int) < (l.length : Int)) = decide (l ≠ []) := by
  cases l with
  | nil => rfl
  | cons a l => simp
theorem wr1 (v : Val') : wr 1 v = if decide (v.1.fdiv (2 ^ 8) ≠ 0) then 4 else if decide (v.2 ≠ []) then 1 else 0 := by
  unfold wr
  rw [show (8 * (1 : Int)).toNat = 8 from rfl]
  rfl
theorem wr2 (v : Val') : wr 2 v = if decide (v.1.fdiv (2 ^ 16) ≠ 0) then 4 else if decide (v.2 ≠ []) then 1 else 0 := by
  unfold wr
  rw [show (8 * (2 : Int)).toNat = 16 from rfl]
  rfl
theorem wr4 (v : Val') : wr 4 v = if decide (v.1.fdiv (2 ^ 32) ≠ 0) then 4 else if decide (v.2 ≠ []) then 1 else 0 := by
  unfold wr
  rw [show (8 * (4 : Int)).toNat = 32 from rfl]
  rfl
theorem wr8 (v : Val') : wr 8 v = if decide (v.2 ≠ []) then 1 else 0 := rfl
theorem bad1 {v : Val'} (hv : Rng v) : decide (v.1.fdiv (2 ^ 8) ≠ 0) = decide ((rput 1 v.1).2 ≠ 0) := by rw [rput_bad hv, fdiv_pos hv.1 (by decide)]; rfl
theorem bad2 {v : Val'} (hv : Rng v) : decide (v.1.fdiv (2 ^ 16) ≠ 0) = decide ((rput 2 v.1).2 ≠ 0) := by rw [rput_bad hv, fdiv_pos hv.1 (by decide)]; rfl
theorem bad4 {v : Val'} (hv : Rng v) : decide (v.1.fdiv (2 ^ 32) ≠ 0) = decide ((rput 4 v.1).2 ≠ 0) := by rw [rput_bad hv, fdiv_pos hv.1 (by decide)]; rfl
theorem bad8 {v : Val'} (hv : Rng v) : decide ((rput 8 v.1).2 ≠ 0) = false := by
  rw [rput_bad hv, decide_eq_false_iff_not]
  have := hv.1
  have := hv.2
  omega
theorem rval_ct (G : Nat → Option (List V)) (tb : Val' → Int) (c : UInt8) (hc : c = 111 ∨ c = 115 ∨ c = 108 ∨ c = 113 ∨ c = 98 ∨ c = 83 ∨ c = 76) (v : Val') (hv : Rng v) (H : Heap) :
    Call2 Go.Proofs.Tryd.prog G 40 [.int .u8 (c.toNat : Int), .agg (vcells v)] H fun r H' => H' = H ∧ r = .int .i64 (rl tb c v) := by
  refine Call2.free (fun x hx => by
    simp only [List.mem_cons, List.not_mem_nil, or_false] at hx
    rcases hx with rfl | rfl
    · exact .im _
    · exact vcells_free v) ?_ H
  refine stCall2 Go.Proofs.Tryd.func40 rfl (by decide) ?_
  rcases hc with rfl | rfl | rfl | rfl | rfl | rfl | rfl
  · have hr : rl tb 111 v = wr 1 v := rfl
    rw [hr, wr1, bad1 hv]
    conv => whnf
    refine Call2.mono (rwidth_ct G 111 _) fun r0 H0 h => ?_
    obtain ⟨h1, h2⟩ := h
    rw [h1, h2]
    clear h1 h2 r0 H0
    conv => whnf
    refine Call2.mono (rput_ct G 1 (by simp) v.1 _) fun r0 H0 h => ?_
    obtain ⟨h1, h2⟩ := h
    rw [h1, h2]
    clear h1 h2 r0 H0
    conv => whnf
    refine br_intro (fun h => ?_) (fun h => ?_)
    · have h' : decide ((rput 1 v.1).2 ≠ 0) = true := h
      rw [h']
      conv => whnf
      exact ⟨.im _, rfl⟩
    · have h' : decide ((rput 1 v.1).2 ≠ 0) = false := h
      rw [h']
      rw [← len_pos]
      conv => whnf
      refine br_intro (fun h2 => ?_) (fun h2 => ?_)
      · have h2' : decide ((0 : Int) < (v.2.length : Int)) = true := h2
        rw [h2']
        conv => whnf
        exact ⟨.im _, rfl⟩
      · have h2' : decide ((0 : Int) < (v.2.length : Int)) = false := h2
        rw [h2']
        conv => whnf
        exact ⟨.im _, rfl⟩
  · have hr : rl tb 115 v = wr 2 v := rfl
    rw [hr, wr2, bad2 hv]
    conv => whnf
    refine Call2.mono (rwidth_ct G 115 _) fun r0 H0 h => ?_
    obtain ⟨h1, h2⟩ := h
    rw [h1, h2]
    clear h1 h2 r0 H0
    conv => whnf
    refine Call2.mono (rput_ct G 2 (by simp) v.1 _) fun r0 H0 h => ?_
    obtain ⟨h1, h2⟩ := h
    rw [h1, h2]
    clear h1 h2 r0 H0
    conv => whnf
    refine br_intro (fun h => ?_) (fun h => ?_)
    · have h' : decide ((rput 2 v.1).2 ≠ 0) = true := h
      rw [h']
      conv => whnf
      exact ⟨.im _, rfl⟩
    · have h' : decide ((rput 2 v.1).2 ≠ 0) = false := h
      rw [h']
      rw [← len_pos]
      conv => whnf
      refine br_intro (fun h2 => ?_) (fun h2 => ?_)
      · have h2' : decide ((0 : Int) < (v.2.length : Int)) = true := h2
        rw [h2']
        conv => whnf
        exact ⟨.im _, rfl⟩
      · have h2' : decide ((0 : Int) < (v.2.length : Int)) = false := h2
        rw [h2']
        conv => whnf
        exact ⟨.im _, rfl⟩
  · have hr : rl tb 108 v = wr 4 v := rfl
    rw [hr, wr4, bad4 hv]
    conv => whnf
    refine Call2.mono (rwidth_ct G 108 _) fun r0 H0 h => ?_
    obtain ⟨h1, h2⟩ := h
    rw [h1, h2]
    clear h1 h2 r0 H0
    conv => whnf
    refine Call2.mono (rput_ct G 4 (by simp) v.1 _) fun r0 H0 h => ?_
    obtain ⟨h1, h2⟩ := h
    rw [h1, h2]
    clear h1 h2 r0 H0
    conv => whnf
    refine br_intro (fun h => ?_) (fun h => ?_)
    · have h' : decide ((rput 4 v.1).2 ≠ 0) = true := h
      rw [h']
      conv => whnf
      exact ⟨.im _, rfl⟩
    · have h' : decide ((rput 4 v.1).2 ≠ 0) = false := h
      rw [h']
      rw [← len_pos]
      conv => whnf
      refine br_intro (fun h2 => ?_) (fun h2 => ?_)
      · have h2' : decide ((0 : Int) < (v.2.length : Int)) = true := h2
        rw [h2']
        conv => whnf
        exact ⟨.im _, rfl⟩
      · have h2' : decide ((0 : Int) < (v.2.length : Int)) = false := h2
        rw [h2']
        conv => whnf
        exact ⟨.im _, rfl⟩
  · have hr : rl tb 113 v = wr 8 v := rfl
    rw [hr, wr8]
    conv => whnf
    refine Call2.mono (rwidth_ct G 113 _) fun r0 H0 h => ?_
    obtain ⟨h1, h2⟩ := h
    rw [h1, h2]
    clear h1 h2 r0 H0
    conv => whnf
    refine Call2.mono (rput_ct G 8 (by simp) v.1 _) fun r0 H0 h => ?_
    obtain ⟨h1, h2⟩ := h
    rw [h1, h2]
    clear h1 h2 r0 H0
    conv => whnf
    refine br_f (bad8 hv) ?_
    rw [← len_pos]
    conv => whnf
    refine br_intro (fun h2 => ?_) (fun h2 => ?_)
    · have h2' : decide ((0 : Int) < (v.2.length : Int)) = true := h2
      rw [h2']
      conv => whnf
      exact ⟨.im _, rfl⟩
    · have h2' : decide ((0 : Int) < (v.2.length : Int)) = false := h2
      rw [h2']
      conv => whnf
      exact ⟨.im _, rfl⟩
  · have hr : rl tb 98 v = if decide (1 < v.1) then 4 else if decide (v.2 ≠ []) then 1 else 0 := by
      show wr 0 v = _
      unfold wr
      cases decide (1 < v.1) <;> rfl
    rw [hr]
    conv => whnf
    refine Call2.mono (rwidth_ct G 98 _) fun r0 H0 h => ?_
    obtain ⟨h1, h2⟩ := h
    rw [h1, h2]
    clear h1 h2 r0 H0
    conv => whnf
    refine br_intro (fun h => ?_) (fun h => ?_)
    · have h' : decide (1 < v.1) = true := h
      rw [h']
      conv => whnf
      exact ⟨.im _, rfl⟩
    · have h' : decide (1 < v.1) = false := h
      rw [h']
      rw [← len_pos]
      conv => whnf
      refine br_intro (fun h2 => ?_) (fun h2 => ?_)
      · have h2' : decide ((0 : Int) < (v.2.length : Int)) = true := h2
        rw [h2']
        conv => whnf
        exact ⟨.im _, rfl⟩
      · have h2' : decide ((0 : Int) < (v.2.length : Int)) = false := h2
        rw [h2']
        conv => whnf
        exact ⟨.im _, rfl⟩
  · have hr : rl tb 83 v = wt 255 v := rfl
    rw [hr]
    unfold wt
    conv => whnf
    refine Call2.mono (rwidth_ct G 83 _) fun r0 H0 h => ?_
    obtain ⟨h1, h2⟩ := h
    rw [h1, h2]
    clear h1 h2 r0 H0
    conv => whnf
    refine br_intro (fun h => ?_) (fun h => ?_)
    · have h' : decide ((v.2.length : Int) > _) = true := h
      rw [h']
      conv => whnf
      exact ⟨.im _, rfl⟩
    · have h' : decide ((v.2.length : Int) > _) = false := h
      rw [h']
      conv => whnf
      refine br_intro (fun h2 => ?_) (fun h2 => ?_)
      · have h2' : decide (v.1 ≠ 0) = true := h2
        rw [h2']
        conv => whnf
        exact ⟨.im _, rfl⟩
      · have h2' : decide (v.1 ≠ 0) = false := h2
        rw [h2']
        conv => whnf
        exact ⟨.im _, rfl⟩
  · have hr : rl tb 76 v = wt 131072 v := rfl
    rw [hr]
    unfold wt
    conv => whnf
    refine Call2.mono (rwidth_ct G 76 _) fun r0 H0 h => ?_
    obtain ⟨h1, h2⟩ := h
    rw [h1, h2]
    clear h1 h2 r0 H0
    conv => whnf
    refine br_intro (fun h => ?_) (fun h => ?_)
    · have h' : decide ((v.2.length : Int) > _) = true := h
      rw [h']
      conv => whnf
      exact ⟨.im _, rfl⟩
    · have h' : decide ((v.2.length : Int) > _) = false := h
      rw [h']
      conv => whnf
      refine br_intro (fun h2 => ?_) (fun h2 => ?_)
      · have h2' : decide (v.1 ≠ 0) = true := h2
        rw [h2']
        conv => whnf
        exact ⟨.im _, rfl⟩
      · have h2' : decide (v.1 ≠ 0) = false := h2
        rw [h2']
        conv => whnf
        exact ⟨.im _, rfl⟩
end Go.Abs.Sig

/-! R7 -/
namespace Go.Abs.Sig
open Go.RowKit Go.Abs
set_option linter.unusedSimpArgs false
set_option linter.unusedVariables false
set_option maxRecDepth 8000
attribute [local irreducible] StCall StYield WPc Weak IterOf Lp2 szL

theorem rvalT_ct (G : Nat → Option (List V)) (v : Val') (hs : v.2.length ≤ maxStr) (H : Heap) :
    Call2 Go.Proofs.Tryd.prog G 40 [.int .u8 (((84 : UInt8).toNat : Nat) : Int), .agg (vcells v)] H fun r H' => H' = H ∧ r = .int .i64 (tbv v) := by
  refine Call2.free (fun x hx => by
    simp only [List.mem_cons, List.not_mem_nil, or_false] at hx
    rcases hx with rfl | rfl
    · exact .im _
    · exact vcells_free v) ?_ H
  refine stCall2 Go.Proofs.Tryd.func40 rfl (by decide) ?_
  have hd := rdeep_ct G v.2 hs
  have hb := tbBad_deep v.2
  unfold tbv
  rw [hb]
  generalize deepE v.2 = e at hd
  conv => whnf
  refine Call2.mono (rwidth_ct G 84 _) fun r0 H0 h => ?_
  obtain ⟨h1, h2⟩ := h
  rw [h1, h2]
  clear h1 h2 r0 H0
  conv => whnf
  by_cases h0 : v.1 ≠ 0
  · refine br_t (decide_eq_true h0) ?_
    rw [if_pos h0]
    conv => whnf
    exact ⟨.im _, rfl⟩
  · refine br_f (decide_eq_false h0) ?_
    rw [if_neg h0]
    conv => whnf
    refine Call2.mono (hd _) fun r0 H0 h => ?_
    obtain ⟨h1, d2, h2⟩ := h
    rw [h1, h2]
    clear h1 h2 r0 H0
    conv => whnf
    by_cases he : e ≠ 0
    · refine br_t (decide_eq_true he) ?_
      rw [if_pos (decide_eq_true he)]
      conv => whnf
      exact ⟨.im _, rfl⟩
    · refine br_f (decide_eq_false he) ?_
      rw [if_neg (by simpa using he)]
      conv => whnf
      exact ⟨.im _, rfl⟩
end Go.Abs.Sig

/-! M9 -/
namespace Go.Abs.Sig
open Go.RowKit Go.Abs
set_option linter.unusedSimpArgs false
set_option linter.unusedVariables false
set_option maxRecDepth 8000
attribute [local irreducible] StCall StYield WPc Weak IterOf Lp2

def rrS (s : List UInt8) (m : Met) (j : Nat) : S2 := headS 43 ([.bad, .ptr 0 0, .bad, .str s, .bad, .int .i64 (j : Int)] ++ List.replicate 37 .bad) [some (.cells 26 (mcells m))] [] none

theorem rright_ct (G : Nat → Option (List V)) (tb : Val' → Int) (m : Met) (hT : ¬ 84 ∈ (rowAt m.1 m.2.1).2.2.1) (hrng : ∀ v ∈ m.2.2, Rng v) (H : Heap) : Call2 Go.Proofs.Tryd.prog G 20 [.agg (mcells m)] H fun r H' => H' = H ∧ r = .int .i64 (mright tb m) := by
  refine Call2.free (fun x hx => by
    simp only [List.mem_cons, List.not_mem_nil, or_false] at hx
    subst hx
    exact mcells_free m) ?_ H
  obtain ⟨c, i, l⟩ := m
  refine stCall2 Go.Proofs.Tryd.func20 rfl (by decide) ?_
  unfold mright
  conv => whnf
  refine Call2.mono (rof_ct G c i _) fun r0 H0 h => ?_
  obtain ⟨h1, h2⟩ := h
  rw [h1, h2]
  clear h1 h2 r0 H0
  conv => whnf
  rw [rof_eq]
  have hsh := tab_short c i
  generalize hs : (rowAt c i).2.2.1 = s at hT hsh
  cases hi : isAt c i
  · conv => whnf
    exact ⟨.im _, rfl⟩
  · conv => whnf
    refine br_intro (fun h1 => ?_) (fun h1 => ?_)
    · have h1' : decide ((s.length : Int) ≠ ((vals l).length : Int)) = true := h1
      have h1'' : decide ((s.length : Int) ≠ (l.length : Int)) = true := by rw [← h1']; simp [vals]
      conv => whnf
      refine ⟨.im _, ?_⟩
      show V.int .i64 7 = V.int .i64 (if !true || decide ((s.length : Int) ≠ (l.length : Int)) then 7 else vright tb s l)
      rw [h1'']
      rfl
    · have h1' : decide ((s.length : Int) ≠ ((vals l).length : Int)) = false := h1
      have hlen : s.length = l.length := by simp [vals] at h1'; omega
      have hres : (if !true || decide ((s.length : Int) ≠ (l.length : Int)) then (7 : Int) else vright tb s l) = vright tb s l := by rw [hlen]; simp
      conv => whnf
      intro hw
      refine wpc_loop2 (fun n1 s1 => ∃ j : Nat, j ≤ l.length ∧ n1 = l.length - j ∧ s1 = rrS s (c, i, l) j ∧ vright tb (s.drop j) (l.drop j) = vright tb s l) l.length (rrS s (c, i, l) 0) ?_ ⟨0, by omega, rfl, rfl, rfl⟩ ?_ ?_
      · exact weak2 hw rfl ⟨.ptr 0 0 (of_decide_eq_true rfl), .str _, .im _, trivial⟩ (.cons (.free (mcells_free' (c, i, l))) (.nil _)) (fun id hid => by cases hid) rfl (fun id hid => by cases hid)
      · rintro n1 s1 ⟨j, _, _, rfl, _⟩
        exact ⟨⟨Nat.le_refl 43, fun x hx => by cases hx⟩, rfl, Nat.le_refl _, rfl⟩
      · rintro n1 s1 ⟨j, hj, rfl, rfl, hinv⟩
        conv => whnf
        refine br_intro (fun hlt => ?_) (fun hge => ?_)
        · have hlt' : decide ((j : Int) < (s.length : Int)) = true := hlt
          rw [decide_eq_true_eq] at hlt'
          have hjl : j < l.length := by omega
          obtain ⟨v, hv⟩ : ∃ v, l[j]? = some v := ⟨l[j], List.getElem?_eq_getElem hjl⟩
          obtain ⟨b, hb⟩ : ∃ b, s[j]? = some b := ⟨_, List.getElem?_eq_getElem (by rw [hlen]; exact hjl)⟩
          have hget := vals_get hv
          have hgetb : s[Int.toNat (j : Int)]? = some b := hb
          have hd0 : decide (0 ≤ (j : Int)) = true := decide_eq_true (by omega)
          have hg : (true && true && decide ((0 : Int) ≤ (j : Int))) = true := by simp
          have hwj : IntKind.i64.wrap ((j : Int) + 1) = ((j + 1 : Nat) : Int) := by rw [wrap_i64 (by omega) (by omega)]; rfl
          have hds : s.drop j = b :: s.drop (j + 1) := by rw [List.drop_eq_getElem_cons (by rw [hlen]; exact hjl), (List.getElem?_eq_some_iff.1 hb).2]
          have hdl : l.drop j = v :: l.drop (j + 1) := by rw [List.drop_eq_getElem_cons hjl, (List.getElem?_eq_some_iff.1 hv).2]
          have hvr : vright tb (s.drop j) (l.drop j) = if rl tb b v ≠ 0 then rl tb b v else vright tb (s.drop (j + 1)) (l.drop (j + 1)) := by rw [hds, hdl]; rfl
          have hbm : b ∈ s := List.mem_of_getElem? hb
          have hlet : b = 111 ∨ b = 115 ∨ b = 108 ∨ b = 113 ∨ b = 98 ∨ b = 83 ∨ b = 76 := by
            have := letters_at (c := c) (i := i) (b := b) (by rw [hs]; exact hbm)
            rcases this with h | h | h | h | h | h | h | h
            · exact .inl h
            · exact .inr (.inl h)
            · exact .inr (.inr (.inl h))
            · exact .inr (.inr (.inr (.inl h)))
            · exact .inr (.inr (.inr (.inr (.inl h))))
            · exact .inr (.inr (.inr (.inr (.inr (.inl h)))))
            · exact .inr (.inr (.inr (.inr (.inr (.inr h)))))
            · exact absurd (h ▸ hbm) hT
          have hvR : Rng v := hrng v (List.mem_of_getElem? hv)
          have hne0 : decide (rl tb b v ≠ 0) = true → rl tb b v = vright tb s l := fun h => by
            rw [← hinv, hvr, if_pos (by simpa using h)]
          have heq0 : decide (rl tb b v ≠ 0) = false → vright tb (s.drop (j + 1)) (l.drop (j + 1)) = vright tb s l := fun h => by
            have h0 : rl tb b v = 0 := by simpa using h
            rw [← hinv, hvr, if_neg (by simp [h0])]
          conv => whnf
          intro hw2
          refine wpc_draw2 8 (by rfl) (by decide) (by decide) hw2 ?_
          conv => whnf
          refine grd_intro hd0 (optK_intro hgetb ?_)
          conv => whnf
          refine grd_intro hg (optK_intro hget ?_)
          conv => whnf
          refine Call2.mono (rval_ct G tb b hlet v hvR _) fun r1 H1 h => ?_
          obtain ⟨e1, e2⟩ := h
          rw [e1, e2]
          clear e1 e2
          conv => whnf
          refine br_intro (fun hr => ?_) (fun hr => ?_)
          · have hr' := hne0 hr
            conv => whnf
            refine ⟨.im _, ?_⟩
            show V.int .i64 (rl tb b v) = V.int .i64 (if !true || decide ((s.length : Int) ≠ (l.length : Int)) then 7 else vright tb s l)
            rw [hres, hr']
          · have hnext := heq0 hr
            conv => whnf
            intro hw3
            refine ⟨l.length - (j + 1), rrS s (c, i, l) (j + 1), by omega, ?_, j + 1, by omega, rfl, rfl, hnext⟩
            exact weak2 hw3 rfl ⟨.ptr 0 0 (of_decide_eq_true rfl), .str _, .int hwj, trivial⟩ (.cons (.free (mcells_free' (c, i, l))) (.nil _)) (fun id hid => by cases hid) rfl (fun id hid => by cases hid)
        · have hge' : decide ((j : Int) < (s.length : Int)) = false := hge
          rw [decide_eq_false_iff_not] at hge'
          obtain rfl : j = l.length := by omega
          have h0 : vright tb s l = 0 := by
            rw [← hinv, List.drop_length, ← hlen, List.drop_length]; rfl
          conv => whnf
          refine ⟨.im _, ?_⟩
          show V.int .i64 0 = V.int .i64 (if !true || decide ((s.length : Int) ≠ (l.length : Int)) then 7 else vright tb s l)
          rw [hres, h0]
end Go.Abs.Sig

/-! R8 -/
namespace Go.Abs.Sig
open Go.RowKit Go.Abs
set_option linter.unusedSimpArgs false
set_option linter.unusedVariables false
set_option maxRecDepth 8000
attribute [local irreducible] StCall StYield WPc Weak IterOf Lp2

theorem rvalAll_ct (G : Nat → Option (List V)) (b : UInt8) (hb : b = 111 ∨ b = 115 ∨ b = 108 ∨ b = 113 ∨ b = 98 ∨ b = 83 ∨ b = 76 ∨ b = 84) (v : Val') (hv : Rng v) (hs : v.2.length ≤ maxStr) (H : Heap) :
    Call2 Go.Proofs.Tryd.prog G 40 [.int .u8 (b.toNat : Int), .agg (vcells v)] H fun r H' => H' = H ∧ r = .int .i64 (rl tbv b v) := by
  by_cases h84 : b = 84
  · subst h84
    exact rvalT_ct G v hs H
  · exact rval_ct G tbv b (by
      rcases hb with h | h | h | h | h | h | h | h
      · exact .inl h
      · exact .inr (.inl h)
      · exact .inr (.inr (.inl h))
      · exact .inr (.inr (.inr (.inl h)))
      · exact .inr (.inr (.inr (.inr (.inl h))))
      · exact .inr (.inr (.inr (.inr (.inr (.inl h)))))
      · exact .inr (.inr (.inr (.inr (.inr (.inr h)))))
      · exact absurd h h84) v hv H

theorem rrightT_ct (G : Nat → Option (List V)) (m : Met) (hrng : ∀ v ∈ m.2.2, Rng v) (hstr : ∀ v ∈ m.2.2, v.2.length ≤ maxStr) (H : Heap) : Call2 Go.Proofs.Tryd.prog G 20 [.agg (mcells m)] H fun r H' => H' = H ∧ r = .int .i64 (mright tbv m) := by
  refine Call2.free (fun x hx => by
    simp only [List.mem_cons, List.not_mem_nil, or_false] at hx
    subst hx
    exact mcells_free m) ?_ H
  obtain ⟨c, i, l⟩ := m
  refine stCall2 Go.Proofs.Tryd.func20 rfl (by decide) ?_
  unfold mright
  conv => whnf
  refine Call2.mono (rof_ct G c i _) fun r0 H0 h => ?_
  obtain ⟨h1, h2⟩ := h
  rw [h1, h2]
  clear h1 h2 r0 H0
  conv => whnf
  rw [rof_eq]
  have hsh := tab_short c i
  generalize hs : (rowAt c i).2.2.1 = s at hsh
  cases hi : isAt c i
  · conv => whnf
    exact ⟨.im _, rfl⟩
  · conv => whnf
    refine br_intro (fun h1 => ?_) (fun h1 => ?_)
    · have h1' : decide ((s.length : Int) ≠ ((vals l).length : Int)) = true := h1
      have h1'' : decide ((s.length : Int) ≠ (l.length : Int)) = true := by rw [← h1']; simp [vals]
      conv => whnf
      refine ⟨.im _, ?_⟩
      show V.int .i64 7 = V.int .i64 (if !true || decide ((s.length : Int) ≠ (l.length : Int)) then 7 else vright tbv s l)
      rw [h1'']
      rfl
    · have h1' : decide ((s.length : Int) ≠ ((vals l).length : Int)) = false := h1
      have hlen : s.length = l.length := by simp [vals] at h1'; omega
      have hres : (if !true || decide ((s.length : Int) ≠ (l.length : Int)) then (7 : Int) else vright tbv s l) = vright tbv s l := by rw [hlen]; simp
      conv => whnf
      intro hw
      refine wpc_loop2 (fun n1 s1 => ∃ j : Nat, j ≤ l.length ∧ n1 = l.length - j ∧ s1 = rrS s (c, i, l) j ∧ vright tbv (s.drop j) (l.drop j) = vright tbv s l) l.length (rrS s (c, i, l) 0) ?_ ⟨0, by omega, rfl, rfl, rfl⟩ ?_ ?_
      · exact weak2 hw rfl ⟨.ptr 0 0 (of_decide_eq_true rfl), .str _, .im _, trivial⟩ (.cons (.free (mcells_free' (c, i, l))) (.nil _)) (fun id hid => by cases hid) rfl (fun id hid => by cases hid)
      · rintro n1 s1 ⟨j, _, _, rfl, _⟩
        exact ⟨⟨Nat.le_refl 43, fun x hx => by cases hx⟩, rfl, Nat.le_refl _, rfl⟩
      · rintro n1 s1 ⟨j, hj, rfl, rfl, hinv⟩
        conv => whnf
        refine br_intro (fun hlt => ?_) (fun hge => ?_)
        · have hlt' : decide ((j : Int) < (s.length : Int)) = true := hlt
          rw [decide_eq_true_eq] at hlt'
          have hjl : j < l.length := by omega
          obtain ⟨v, hv⟩ : ∃ v, l[j]? = some v := ⟨l[j], List.getElem?_eq_getElem hjl⟩
          obtain ⟨b, hb⟩ : ∃ b, s[j]? = some b := ⟨_, List.getElem?_eq_getElem (by rw [hlen]; exact hjl)⟩
          have hget := vals_get hv
          have hgetb : s[Int.toNat (j : Int)]? = some b := hb
          have hd0 : decide (0 ≤ (j : Int)) = true := decide_eq_true (by omega)
          have hg : (true && true && decide ((0 : Int) ≤ (j : Int))) = true := by simp
          have hwj : IntKind.i64.wrap ((j : Int) + 1) = ((j + 1 : Nat) : Int) := by rw [wrap_i64 (by omega) (by omega)]; rfl
          have hds : s.drop j = b :: s.drop (j + 1) := by rw [List.drop_eq_getElem_cons (by rw [hlen]; exact hjl), (List.getElem?_eq_some_iff.1 hb).2]
          have hdl : l.drop j = v :: l.drop (j + 1) := by rw [List.drop_eq_getElem_cons hjl, (List.getElem?_eq_some_iff.1 hv).2]
          have hvr : vright tbv (s.drop j) (l.drop j) = if rl tbv b v ≠ 0 then rl tbv b v else vright tbv (s.drop (j + 1)) (l.drop (j + 1)) := by rw [hds, hdl]; rfl
          have hbm : b ∈ s := List.mem_of_getElem? hb
          have hlet := letters_at (c := c) (i := i) (b := b) (by rw [hs]; exact hbm)
          have hvR : Rng v := hrng v (List.mem_of_getElem? hv)
          have hne0 : decide (rl tbv b v ≠ 0) = true → rl tbv b v = vright tbv s l := fun h => by
            rw [← hinv, hvr, if_pos (by simpa using h)]
          have heq0 : decide (rl tbv b v ≠ 0) = false → vright tbv (s.drop (j + 1)) (l.drop (j + 1)) = vright tbv s l := fun h => by
            have h0 : rl tbv b v = 0 := by simpa using h
            rw [← hinv, hvr, if_neg (by simp [h0])]
          conv => whnf
          intro hw2
          refine wpc_draw2 8 (by rfl) (by decide) (by decide) hw2 ?_
          conv => whnf
          refine grd_intro hd0 (optK_intro hgetb ?_)
          conv => whnf
          refine grd_intro hg (optK_intro hget ?_)
          conv => whnf
          refine Call2.mono (rvalAll_ct G b hlet v hvR (hstr v (List.mem_of_getElem? hv)) _) fun r1 H1 h => ?_
          obtain ⟨e1, e2⟩ := h
          rw [e1, e2]
          clear e1 e2
          conv => whnf
          refine br_intro (fun hr => ?_) (fun hr => ?_)
          · have hr' := hne0 hr
            conv => whnf
            refine ⟨.im _, ?_⟩
            show V.int .i64 (rl tbv b v) = V.int .i64 (if !true || decide ((s.length : Int) ≠ (l.length : Int)) then 7 else vright tbv s l)
            rw [hres, hr']
          · have hnext := heq0 hr
            conv => whnf
            intro hw3
            refine ⟨l.length - (j + 1), rrS s (c, i, l) (j + 1), by omega, ?_, j + 1, by omega, rfl, rfl, hnext⟩
            exact weak2 hw3 rfl ⟨.ptr 0 0 (of_decide_eq_true rfl), .str _, .int hwj, trivial⟩ (.cons (.free (mcells_free' (c, i, l))) (.nil _)) (fun id hid => by cases hid) rfl (fun id hid => by cases hid)
        · have hge' : decide ((j : Int) < (s.length : Int)) = false := hge
          rw [decide_eq_false_iff_not] at hge'
          obtain rfl : j = l.length := by omega
          have h0 : vright tbv s l = 0 := by
            rw [← hinv, List.drop_length, ← hlen, List.drop_length]; rfl
          conv => whnf
          refine ⟨.im _, ?_⟩
          show V.int .i64 0 = V.int .i64 (if !true || decide ((s.length : Int) ≠ (l.length : Int)) then 7 else vright tbv s l)
          rw [hres, h0]
end Go.Abs.Sig
