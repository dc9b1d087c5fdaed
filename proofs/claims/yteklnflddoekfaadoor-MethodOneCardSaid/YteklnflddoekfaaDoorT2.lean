/- The walks of some functions: what they compute. -/
import Derived.Test.YteklnflddoekfaaDoorT1
import Derived.Test.YteklnflddoekfaaDoorRows
import Derived.LaidMore
import Derived.Stop.Joined

/-! P2 -/
namespace Go.Abs.Sig
open Go.RowKit Go.Abs
set_option linter.unusedSimpArgs false
set_option linter.unusedVariables false
set_option maxRecDepth 8000
attribute [local irreducible] StCall StYield WPc Weak IterOf Lp2

/-- Two texts and an error. -/
def ssV (x : List UInt8 × List UInt8 × Int) : V := .tup [.str x.1, .str x.2.1, .int .i64 x.2.2]
theorem ssV_free (x : List UInt8 × List UInt8 × Int) : (ssV x).Free := .tup _ fun v hv => by
  simp only [List.mem_cons, List.not_mem_nil, or_false] at hv
  rcases hv with rfl | rfl | rfl
  · exact .str _
  · exact .str _
  · exact .im _
def skipF (s : List UInt8) (n : Nat) : List UInt8 × List UInt8 × Int := if s.length < n then ([], [], 2) else (s.take n, s.drop n, 0)

theorem u64_len {n : Nat} (h : n ≤ 140737488355328) : IntKind.u64.wrap (n : Int) = (n : Int) := by
  simp [IntKind.wrap, IntKind.bits, IntKind.signed]
  omega

theorem skip_ct (G : Nat → Option (List V)) (s : List UInt8) (hs : s.length ≤ maxBytes) (n : Nat) (H : Heap) : Call2 Go.Proofs.Tryd.prog G 97 [.str s, .int .u64 (n : Int)] H fun r H' => H' = H ∧ r = ssV (skipF s n) := by
  refine Call2.free (fun x hx => by
    simp only [List.mem_cons, List.not_mem_nil, or_false] at hx
    rcases hx with rfl | rfl
    · exact .str _
    · exact .im _) ?_ H
  refine stCall2 Go.Proofs.Tryd.func97 rfl (by decide) ?_
  have hs' : s.length ≤ 140737488355328 := hs
  have hu := u64_len hs'
  unfold skipF
  conv => whnf
  rw [hu]
  by_cases hlt : s.length < n
  · have hlt' : decide ((s.length : Int) < (n : Int)) = true := decide_eq_true (by omega)
    refine br_t hlt' ?_
    conv => whnf
    rw [if_pos hlt]
    exact ⟨ssV_free ([], [], 2), rfl⟩
  · have hlt' : decide ((s.length : Int) < (n : Int)) = false := decide_eq_false (by omega)
    refine br_f hlt' ?_
    conv => whnf
    intro hw3
    refine wpc_draw2 9 (by rfl) (by decide) (by decide) hw3 ?_
    conv => whnf
    refine ⟨⟨by omega, by omega, by omega⟩, ?_⟩
    conv => whnf
    refine ⟨⟨by omega, by omega, by omega⟩, ?_⟩
    conv => whnf
    rw [if_neg hlt]
    have hsl : (List.take ((s.length : Nat) : Int).toNat s) = s := List.take_length
    rw [hsl]
    exact ⟨ssV_free (s.take n, s.drop n, 0), rfl⟩

/-- A text behind its length. -/
def ttake (n : Nat) (s : List UInt8) : List UInt8 × List UInt8 × Int := if (ntake s n).2.2 ≠ 0 then ([], [], (ntake s n).2.2) else skipF (ntake s n).2.1 (ntake s n).1

theorem ktake_ct (G : Nat → Option (List V)) (hG : G 1 = some wV) (n : Nat) (hn : n = 1 ∨ n = 2 ∨ n = 4 ∨ n = 8) (s : List UInt8) (hs : s.length ≤ maxBytes) (H : Heap) : Call2 Go.Proofs.Tryd.prog G 93 [.int .i64 (n : Int), .str s] H fun r H' => H' = H ∧ r = ssV (ttake n s) := by
  refine Call2.free (fun x hx => by
    simp only [List.mem_cons, List.not_mem_nil, or_false] at hx
    rcases hx with rfl | rfl
    · exact .im _
    · exact .str _) ?_ H
  refine stCall2 Go.Proofs.Tryd.func93 rfl (by decide) ?_
  have hl : (ntake s n).2.1.length ≤ maxBytes := by
    unfold ntake
    split
    · exact Nat.zero_le _
    · simp only [List.length_drop]; omega
  have h1 := ntake_ct G hG n hn s
  unfold ttake
  generalize ntake s n = x at h1 hl
  obtain ⟨v, rest, e⟩ := x
  unfold ntV at h1
  have h2 := skip_ct G rest hl v
  conv => whnf
  refine Call2.mono (h1 _) fun r0 H0 h => ?_
  obtain ⟨h1, h2⟩ := h
  rw [h1, h2]
  clear h1 h2 r0 H0
  conv => whnf
  by_cases he : e ≠ 0
  · refine br_t (decide_eq_true he) ?_
    conv => whnf
    rw [if_pos he]
    exact ⟨ssV_free ([], [], e), rfl⟩
  · refine br_f (decide_eq_false he) ?_
    rw [if_neg he]
    unfold ssV at h2
    conv => whnf
    refine Call2.mono (h2 _) fun r0 H0 h => ?_
    obtain ⟨h1, h2⟩ := h
    rw [h1, h2]
    clear h1 h2 r0 H0
    conv => whnf
    exact ⟨ssV_free (skipF rest v), rfl⟩

theorem tshort_ct (G : Nat → Option (List V)) (hG : G 1 = some wV) (s : List UInt8) (hs : s.length ≤ maxBytes) (H : Heap) : Call2 Go.Proofs.Tryd.prog G 83 [.str s] H fun r H' => H' = H ∧ r = ssV (ttake 1 s) := by
  refine Call2.free (fun x hx => by
    simp only [List.mem_cons, List.not_mem_nil, or_false] at hx
    subst hx
    exact .str _) ?_ H
  refine stCall2 Go.Proofs.Tryd.func83 rfl (by decide) ?_
  have h2 := ktake_ct G hG 1 (by decide) s hs
  unfold ssV at h2
  conv => whnf
  refine Call2.mono (h2 _) fun r0 H0 h => ?_
  obtain ⟨h1, h2⟩ := h
  rw [h1, h2]
  clear h1 h2 r0 H0
  conv => whnf
  exact ⟨ssV_free _, rfl⟩
theorem tlong_ct (G : Nat → Option (List V)) (hG : G 1 = some wV) (s : List UInt8) (hs : s.length ≤ maxBytes) (H : Heap) : Call2 Go.Proofs.Tryd.prog G 84 [.str s] H fun r H' => H' = H ∧ r = ssV (ttake 4 s) := by
  refine Call2.free (fun x hx => by
    simp only [List.mem_cons, List.not_mem_nil, or_false] at hx
    subst hx
    exact .str _) ?_ H
  refine stCall2 Go.Proofs.Tryd.func84 rfl (by decide) ?_
  have h2 := ktake_ct G hG 4 (by decide) s hs
  unfold ssV at h2
  conv => whnf
  refine Call2.mono (h2 _) fun r0 H0 h => ?_
  obtain ⟨h1, h2⟩ := h
  rw [h1, h2]
  clear h1 h2 r0 H0
  conv => whnf
  exact ⟨ssV_free _, rfl⟩
end Go.Abs.Sig

/-! P3 -/
namespace Go.Abs.Sig
open Go.RowKit Go.Abs
set_option linter.unusedSimpArgs false
set_option linter.unusedVariables false
set_option maxRecDepth 8000
attribute [local irreducible] StCall StYield WPc Weak IterOf Lp2

/-- Lookups by a byte in a map of numbers. -/
def bmap (l : List (Nat × Nat)) : List (V × V) := l.map fun x => (.int .u8 (x.1 : Int), .int .u64 (x.2 : Int))
theorem find_lookup {K : Option (Nat × V) → Prop} {c : Nat} : ∀ (l : List (Nat × Nat)) (i : Nat), (∀ i, match l.lookup c with | some n => K (some (i, .int .u64 (n : Int))) | none => K none) → evFind2 (.int .u8 (c : Int)) K (bmap l) i
  | [], i, h => h i
  | (a, n) :: l, i, h => by
    show br (decide ((c : Int) = (a : Int))) _ _
    by_cases hc : c = a
    · subst hc
      refine br_t (by simp) ?_
      have := h i
      simp at this
      exact this
    · refine br_f (by simp; omega) ?_
      refine find_lookup l (i + 1) fun i => ?_
      have := h i
      rwa [List.lookup_cons, show (c == a) = false by simp [hc]] at this

def szL : List (Nat × Nat) := [(116, 1), (98, 1), (66, 1), (115, 2), (117, 2), (73, 4), (105, 4), (102, 4), (108, 8), (100, 8), (84, 8), (68, 5), (86, 0)]
def szs : List (V × V) := bmap szL
def tkH (d : Int) : Heap := [some (.map szs 13), some (.cells 147 [.mp 0, .int .i64 d])]

theorem sizes_ct (G : Nat → Option (List V)) : Call2 Go.Proofs.Tryd.prog G 88 [] [] fun r H' => r = .mp 0 ∧ H' = [some (.map szs 13)] := by
  refine stCall2 Go.Proofs.Tryd.func88 rfl (by decide) ?_
  conv => whnf
  exact ⟨rfl, rfl⟩

/-- A text and an error. -/
def seV (x : List UInt8 × Int) : V := .tup [.str x.1, .int .i64 x.2]

def itemsF (one : List UInt8 → List UInt8 × Int) : Nat → List UInt8 → Int
  | 0, _ => 0
  | n + 1, s => if s = [] then 0 else if (one s).2 = 2 then 3 else if (one s).2 ≠ 0 then (one s).2 else itemsF one n (one s).1
def withF (dep : Int) (one : List UInt8 → List UInt8 × Int) (s : List UInt8) : List UInt8 × Int :=
  if (ntake s 4).2.2 ≠ 0 then ([], (ntake s 4).2.2) else
  if (skipF (ntake s 4).2.1 (ntake s 4).1).2.2 ≠ 0 then ([], (skipF (ntake s 4).2.1 (ntake s 4).1).2.2) else
  if dep > 32 then ([], 5) else
  ((skipF (ntake s 4).2.1 (ntake s 4).1).2.1, itemsF one (skipF (ntake s 4).2.1 (ntake s 4).1).1.length (skipF (ntake s 4).2.1 (ntake s 4).1).1)

theorem skipF_len (s : List UInt8) (n : Nat) : (skipF s n).1.length ≤ s.length ∧ (skipF s n).2.1.length ≤ s.length ∧ ((skipF s n).2.2 = 0 → (skipF s n).1 ++ (skipF s n).2.1 = s) := by
  unfold skipF
  split
  · simp
  · simp only [List.length_take, List.length_drop, List.take_append_drop, implies_true, and_true]
    omega
theorem ntake_len (s : List UInt8) (n : Nat) : (ntake s n).2.1.length ≤ s.length ∧ ((ntake s n).2.2 = 0 → (ntake s n).2.1.length + n = s.length) := by
  unfold ntake
  split
  · simp
  · simp only [List.length_drop]
    omega

theorem szs_bw {n : Nat} : BW n (some (.map szs 13)) (some (.map szs 13)) := by
  refine .map _ _ _ ?_ ?_ <;> exact .cons (.im _) (.cons (.im _) (.cons (.im _) (.cons (.im _) (.cons (.im _) (.cons (.im _) (.cons (.im _) (.cons (.im _) (.cons (.im _) (.cons (.im _) (.cons (.im _) (.cons (.im _) (.cons (.im _) .nil))))))))))))
theorem tkH_bws (d : Int) : BWs 2 (tkH d) (tkH d) := .cons szs_bw (.cons (.cells _ _ _ (.cons (.mp 0 (by decide)) (.cons (.im _) .nil))) (.nil _))

theorem fn1_vw (f : Nat) : VW 2 (.fn (.func f) [.ptr 1 0] []) (.fn (.func f) [.ptr 1 0] []) := .fn _ _ _ (fun i v h => by
  match i with
  | 0 => cases h; exact .ptr 1 0 (by decide)
  | i + 1 => simp at h) fun i v h => by simp at h

def wiS (dep : Int) (f : Nat) (rest s : List UInt8) (d : Int) : S2 := headS 65 ([.ptr 1 0, .bad, .int .i64 dep, .fn (.func f) [.ptr 1 0] [], .bad, .bad, .bad, .bad, .bad, .bad, .bad, .str rest, .int .i64 0, .str s] ++ List.replicate 51 .bad) (tkH d) [] none

attribute [local irreducible] szs

theorem within_ct (G : Nat → Option (List V)) (hG : G 1 = some wV) (f : Nat) (hf : fnOk Go.Proofs.Tryd.prog f) (dep : Int) (one : List UInt8 → List UInt8 × Int)
    (hone : dep ≤ 32 → ∀ (s : List UInt8) (d : Int), s.length ≤ maxBytes → Call2 Go.Proofs.Tryd.prog G f [.ptr 1 0, .str s, .int .i64 dep] (tkH d) fun r H' => ∃ d', H' = tkH d' ∧ r = seV (one s))
    (hsh : ∀ s, s ≠ [] → (one s).2 = 0 → (one s).1.length < s.length) (s : List UInt8) (hs : s.length ≤ maxBytes) (d : Int) :
    Call2 Go.Proofs.Tryd.prog G 89 [.ptr 1 0, .str s, .int .i64 dep, .fn (.func f) [.ptr 1 0] []] (tkH d) fun r H' => ∃ d', H' = tkH d' ∧ r = seV (withF dep one s) := by
  refine stCall2 Go.Proofs.Tryd.func89 rfl (by decide) ?_
  have hn := ntake_ct G hG 4 (by decide) s
  have hnl := (ntake_len s 4).1
  unfold withF
  generalize ntake s 4 = x at hn hnl
  obtain ⟨v, rest, e⟩ := x
  unfold ntV at hn
  conv => whnf
  intro hws
  refine wpc_scope2 hws ?_
  conv => whnf
  refine Call2.mono (hn _) fun r0 H0 h => ?_
  obtain ⟨h1, h2⟩ := h
  rw [h1, h2]
  clear h1 h2 r0 H0
  conv => whnf
  by_cases he : e ≠ 0
  · refine br_t (decide_eq_true he) ?_
    conv => whnf
    rw [if_pos he]
    exact ⟨d, rfl, rfl⟩
  · refine br_f (decide_eq_false he) ?_
    rw [if_neg he]
    have hk := skip_ct G rest (Nat.le_trans hnl hs) v
    have hkl := skipF_len rest v
    simp only
    generalize skipF rest v = y at hk hkl
    obtain ⟨inn, left, e2⟩ := y
    unfold ssV at hk
    conv => whnf
    refine Call2.mono (hk _) fun r0 H0 h => ?_
    obtain ⟨h1, h2⟩ := h
    rw [h1, h2]
    clear h1 h2 r0 H0
    conv => whnf
    by_cases he2 : e2 ≠ 0
    · refine br_t (decide_eq_true he2) ?_
      conv => whnf
      rw [if_pos he2]
      exact ⟨d, rfl, rfl⟩
    · refine br_f (decide_eq_false he2) ?_
      rw [if_neg he2]
      have he20 : e2 = 0 := by simpa using he2
      by_cases hd : dep > 32
      · have hd' : decide (32 < dep) = true := decide_eq_true hd
        conv => whnf
        refine br_t hd' ?_
        conv => whnf
        rw [if_pos hd]
        exact ⟨d, rfl, rfl⟩
      · have hd' : decide (32 < dep) = false := decide_eq_false hd
        have hone := hone (by omega)
        rw [if_neg hd]
        conv => whnf
        refine br_f hd' ?_
        conv => whnf
        intro hw
        have hil : inn.length ≤ maxBytes := Nat.le_trans hkl.1 (Nat.le_trans hnl hs)
        refine wpc_loop2 (fun n1 s1 => ∃ (q : Nat) (t : List UInt8) (d1 : Int), n1 = t.length ∧ t.length ≤ q ∧ t.length ≤ maxBytes ∧ s1 = wiS dep f left t d1 ∧ itemsF one q t = itemsF one inn.length inn) inn.length (wiS dep f left inn (if dep > d then dep else d)) ?_ ⟨inn.length, inn, _, rfl, Nat.le_refl _, hil, rfl, rfl⟩ ?_ ?_
        · exact weak2 hw rfl ⟨.ptr 1 0 (show 1 < 2 by decide), .im _, fn1_vw f, .str _, .int he20, .str _, trivial⟩ (tkH_bws _) (fun id hid => by cases hid) rfl (fun id hid => by cases hid)
        · rintro n1 s1 ⟨q, t, d1, _, _, _, rfl, _⟩
          exact ⟨⟨Nat.le_refl 65, fun x hx => by cases hx⟩, rfl, Nat.le_refl _, rfl⟩
        · rintro n1 s1 ⟨q, t, d1, rfl, hq, htl, rfl, hinv⟩
          by_cases ht : t ≠ []
          · have hc := hone t d1 htl
            have hsh1 := hsh t ht
            have hq0 : q ≠ 0 := fun h => by
              subst h
              exact ht (List.eq_nil_of_length_eq_zero (by omega))
            obtain ⟨q, rfl⟩ := Nat.exists_eq_succ_of_ne_zero hq0
            rw [itemsF, if_neg ht] at hinv
            generalize one t = z at hc hsh1 hinv
            obtain ⟨l1, bad⟩ := z
            unfold seV at hc
            conv => whnf
            refine br_t (decide_eq_true ht) ?_
            conv => whnf
            refine Call2.mono hc fun r0 H0 h => ?_
            obtain ⟨d2, h1, h2⟩ := h
            rw [h1, h2]
            clear h1 h2 r0 H0
            conv => whnf
            by_cases hb2 : bad = 2
            · refine br_t (decide_eq_true hb2) ?_
              rw [if_pos hb2] at hinv
              conv => whnf
              exact ⟨d2, rfl, by rw [← hinv]; rfl⟩
            · refine br_f (decide_eq_false hb2) ?_
              rw [if_neg hb2] at hinv
              conv => whnf
              by_cases hb0 : bad ≠ 0
              · refine br_t (decide_eq_true hb0) ?_
                rw [if_pos hb0] at hinv
                conv => whnf
                exact ⟨d2, rfl, by rw [← hinv]; rfl⟩
              · refine br_f (decide_eq_false hb0) ?_
                rw [if_neg hb0] at hinv
                have hb00 : bad = 0 := by simpa using hb0
                have hll := hsh1 hb00
                simp only at hll hinv
                conv => whnf
                intro hw3
                refine ⟨l1.length, wiS dep f left l1 d2, hll, ?_, q, l1, d2, rfl, by omega, by omega, rfl, hinv⟩
                exact weak2 hw3 rfl ⟨.ptr 1 0 (show 1 < 2 by decide), .im _, fn1_vw f, .str _, .im _, .str _, trivial⟩ (tkH_bws _) (fun id hid => by cases hid) rfl (fun id hid => by cases hid)
          · have ht0 : t = [] := by simpa using ht
            subst ht0
            have hz : itemsF one q [] = 0 := by cases q <;> simp [itemsF]
            rw [hz] at hinv
            conv => whnf
            exact ⟨d1, rfl, by rw [← hinv]; rfl⟩
end Go.Abs.Sig

/-! P4 -/
namespace Go.Abs.Sig
open Go.RowKit Go.Abs
set_option linter.unusedSimpArgs false
set_option linter.unusedVariables false
set_option maxRecDepth 8000
attribute [local irreducible] StCall StYield WPc Weak IterOf Lp2
theorem find_szs {K : Option (Nat × V) → Prop} {c : Nat} (i : Nat) (h : ∀ i, match szL.lookup c with | some n => K (some (i, .int .u64 (n : Int))) | none => K none) : evFind2 (.int .u8 (c : Int)) K szs i := find_lookup szL i h
attribute [local irreducible] szs szL

/-- What table.value answers, of what nested rows answer. -/
def valB (wA wF : List UInt8 → List UInt8 × Int) : List UInt8 → List UInt8 × Int
  | [] => ([], 2)
  | c :: t => match szL.lookup c.toNat with
    | some n => (skipF t n).2
    | none => if c = 83 ∨ c = 120 then (ttake 4 t).2 else if c = 65 then wA t else if c = 70 then wF t else ([], 3)
def fldF (val : List UInt8 → List UInt8 × Int) (s : List UInt8) : List UInt8 × Int := if (ttake 1 s).2.2 ≠ 0 then ([], (ttake 1 s).2.2) else val (ttake 1 s).2.1
def valF : Nat → List UInt8 → List UInt8 × Int
  | 0 => valB (withF 33 fun _ => ([], 0)) (withF 33 fun _ => ([], 0))
  | r + 1 => valB (withF (32 - (r : Int)) (valF r)) (withF (32 - (r : Int)) (fldF (valF r)))

theorem ttake_len (n : Nat) (s : List UInt8) : (ttake n s).2.1.length ≤ s.length ∧ ((ttake n s).2.2 = 0 → (ttake n s).2.1.length + n ≤ s.length) := by
  unfold ttake
  have h1 := ntake_len s n
  split
  · rename_i h
    exact ⟨Nat.zero_le _, fun h2 => absurd h2 h⟩
  · have h2 := skipF_len (ntake s n).2.1 (ntake s n).1
    rename_i h
    have h3 := h1.2 (by simpa using h)
    exact ⟨by omega, fun _ => by omega⟩

theorem withF_len (dep : Int) (one : List UInt8 → List UInt8 × Int) (s : List UInt8) : (withF dep one s).2 = 0 → (withF dep one s).1.length ≤ s.length := by
  unfold withF
  have h1 := ntake_len s 4
  have h2 := skipF_len (ntake s 4).2.1 (ntake s 4).1
  split
  · intro _; exact Nat.zero_le _
  · split
    · intro _; exact Nat.zero_le _
    · split
      · intro _; exact Nat.zero_le _
      · intro _; simp only; omega

theorem valB_len {wA wF : List UInt8 → List UInt8 × Int} (hA : ∀ s, (wA s).2 = 0 → (wA s).1.length ≤ s.length) (hF : ∀ s, (wF s).2 = 0 → (wF s).1.length ≤ s.length) (s : List UInt8) : (valB wA wF s).2 = 0 → (valB wA wF s).1.length < s.length := by
  cases s with
  | nil => intro h; cases h
  | cons c t =>
    unfold valB
    simp only [List.length_cons]
    split
    · intro _; have := (skipF_len t (by assumption)).2.1; omega
    · split
      · intro _; have := (ttake_len 4 t).1; omega
      · split
        · intro h; have := hA t h; omega
        · split
          · intro h; have := hF t h; omega
          · intro h; cases h

theorem fldF_len {val : List UInt8 → List UInt8 × Int} (hv : ∀ s, (val s).2 = 0 → (val s).1.length < s.length) (s : List UInt8) : (fldF val s).2 = 0 → (fldF val s).1.length < s.length := by
  unfold fldF
  split
  · rename_i h; exact fun h2 => absurd h2 h
  · intro h; have := hv _ h; have := (ttake_len 1 s).1; omega

theorem valF_len : ∀ (r : Nat) (s : List UInt8), (valF r s).2 = 0 → (valF r s).1.length < s.length
  | 0, s => valB_len (withF_len _ _) (withF_len _ _) s
  | r + 1, s => valB_len (withF_len _ _) (withF_len _ _) s

/-- The contract of table.value at a depth. -/
def ValOk (G : Nat → Option (List V)) (r : Nat) : Prop := ∀ (s : List UInt8) (d : Int), s.length ≤ maxBytes → Call2 Go.Proofs.Tryd.prog G 98 [.ptr 1 0, .str s, .int .i64 (32 - (r : Int))] (tkH d) fun x H' => ∃ d', H' = tkH d' ∧ x = seV (valF r s)

theorem field_ct (G : Nat → Option (List V)) (hG : G 1 = some wV) (r : Nat) (hv : ValOk G r) (s : List UInt8) (d : Int) (hs : s.length ≤ maxBytes) :
    Call2 Go.Proofs.Tryd.prog G 90 [.ptr 1 0, .str s, .int .i64 (32 - (r : Int))] (tkH d) fun x H' => ∃ d', H' = tkH d' ∧ x = seV (fldF (valF r) s) := by
  refine stCall2 Go.Proofs.Tryd.func90 rfl (by decide) ?_
  have h1 := tshort_ct G hG s hs
  have hl := (ttake_len 1 s).1
  unfold fldF
  generalize ttake 1 s = x at h1 hl
  obtain ⟨a, rest, e⟩ := x
  unfold ssV at h1
  conv => whnf
  refine Call2.mono (h1 _) fun r0 H0 h => ?_
  obtain ⟨h1, h2⟩ := h
  rw [h1, h2]
  clear h1 h2 r0 H0
  conv => whnf
  by_cases he : e ≠ 0
  · refine br_t (decide_eq_true he) ?_
    rw [if_pos he]
    conv => whnf
    exact ⟨d, rfl, rfl⟩
  · refine br_f (decide_eq_false he) ?_
    rw [if_neg he]
    have h2 := hv rest d (Nat.le_trans hl hs)
    simp only
    unfold seV at h2
    conv => whnf
    refine Call2.mono h2 fun r0 H0 h => ?_
    obtain ⟨d2, h3, h4⟩ := h
    rw [h3, h4]
    clear h3 h4 r0 H0
    conv => whnf
    exact ⟨d2, rfl, rfl⟩

theorem fn98 : fnOk Go.Proofs.Tryd.prog 98 := ⟨_, Go.Proofs.Tryd.func98, rfl, by decide⟩
theorem fn90 : fnOk Go.Proofs.Tryd.prog 90 := ⟨_, Go.Proofs.Tryd.func90, rfl, by decide⟩

theorem u8_ne {c : UInt8} {n : Nat} (h : n < 256) : c.toNat = n ↔ c = UInt8.ofNat n := by
  constructor
  · intro hc; rw [← hc]; simp
  · intro hc; subst hc; simp; omega

theorem value_core (G : Nat → Option (List V)) (hG : G 1 = some wV) (wA wF : List UInt8 → List UInt8 × Int) (dep dep1 : Int) (hdep : IntKind.i64.wrap (dep + 1) = dep1)
    (hA : ∀ (s : List UInt8) (d : Int), s.length ≤ maxBytes → Call2 Go.Proofs.Tryd.prog G 89 [.ptr 1 0, .str s, .int .i64 dep1, .fn (.func 98) [.ptr 1 0] []] (tkH d) fun r H' => ∃ d', H' = tkH d' ∧ r = seV (wA s))
    (hF : ∀ (s : List UInt8) (d : Int), s.length ≤ maxBytes → Call2 Go.Proofs.Tryd.prog G 89 [.ptr 1 0, .str s, .int .i64 dep1, .fn (.func 90) [.ptr 1 0] []] (tkH d) fun r H' => ∃ d', H' = tkH d' ∧ r = seV (wF s))
    (s : List UInt8) (d : Int) (hs : s.length ≤ maxBytes) :
    Call2 Go.Proofs.Tryd.prog G 98 [.ptr 1 0, .str s, .int .i64 dep] (tkH d) fun x H' => ∃ d', H' = tkH d' ∧ x = seV (valB wA wF s) := by
  refine stCall2 Go.Proofs.Tryd.func98 rfl (by decide) ?_
  cases s with
  | nil =>
    conv => whnf
    exact ⟨d, rfl, rfl⟩
  | cons c t =>
    have hl' : t.length ≤ maxBytes := by simp only [List.length_cons] at hs; omega
    have hdr : List.drop (1 : Int).toNat (List.take (((c :: t).length : Nat) : Int).toNat (c :: t)) = t := by rw [Int.toNat_natCast, List.take_length]; rfl
    conv => whnf
    intro hw
    refine wpc_draw2 12 (by rfl) (by decide) (by decide) hw ?_
    conv => whnf
    refine grd_intro rfl (find_szs 0 fun i => ?_)
    cases hlk : szL.lookup c.toNat with
    | some n =>
      simp only
      conv => whnf
      refine ⟨⟨by omega, by simp only [List.length_cons]; omega, by omega⟩, ?_⟩
      rw [hdr]
      have hk := skip_ct G t hl' n
      unfold ssV at hk
      conv => whnf
      refine Call2.mono (hk _) fun r0 H0 h => ?_
      obtain ⟨h1, h2⟩ := h
      rw [h1, h2]
      clear h1 h2 r0 H0
      conv => whnf
      exact ⟨d, rfl, by simp only [valB, hlk]; rfl⟩
    | none =>
      have hx : (if c = 83 ∨ c = 120 then (ttake 4 t).2 else if c = 65 then wA t else if c = 70 then wF t else ([], 3)) = valB wA wF (c :: t) := by unfold valB; simp only [hlk]
      simp only
      conv => whnf
      by_cases h83 : c.toNat = 83
      · refine br_t (decide_eq_true (by omega)) ?_
        have hc : c = 83 := (u8_ne (by decide)).1 h83
        rw [if_pos (.inl hc)] at hx
        conv => whnf
        refine ⟨⟨by omega, by simp only [List.length_cons]; omega, by omega⟩, ?_⟩
        rw [hdr]
        conv => whnf
        have hk := tlong_ct G hG t hl'
        generalize ttake 4 t = z at hk hx
        obtain ⟨z1, z2, z3⟩ := z
        unfold ssV at hk
        refine Call2.mono (hk _) fun r0 H0 h => ?_
        obtain ⟨h1, h2⟩ := h
        rw [h1, h2]
        clear h1 h2 r0 H0
        conv => whnf
        exact ⟨d, rfl, by rw [← hx]; rfl⟩
      · refine br_f (decide_eq_false (by omega)) ?_
        have hc83 : c ≠ 83 := fun h => h83 (by rw [h]; rfl)
        conv => whnf
        by_cases h120 : c.toNat = 120
        · have hc : c = 120 := (u8_ne (by decide)).1 h120
          rw [if_pos (.inr hc)] at hx
          refine br_t (decide_eq_true (by omega)) ?_
          conv => whnf
          refine ⟨⟨by omega, by simp only [List.length_cons]; omega, by omega⟩, ?_⟩
          rw [hdr]
          conv => whnf
          have hk := tlong_ct G hG t hl'
          generalize ttake 4 t = z at hk hx
          obtain ⟨z1, z2, z3⟩ := z
          unfold ssV at hk
          refine Call2.mono (hk _) fun r0 H0 h => ?_
          obtain ⟨h1, h2⟩ := h
          rw [h1, h2]
          clear h1 h2 r0 H0
          conv => whnf
          exact ⟨d, rfl, by rw [← hx]; rfl⟩
        · have hc120 : c ≠ 120 := fun h => h120 (by rw [h]; rfl)
          rw [if_neg (by simp [hc83, hc120])] at hx
          refine br_f (decide_eq_false (by omega)) ?_
          conv => whnf
          by_cases h65 : c.toNat = 65
          · have hc : c = 65 := (u8_ne (by decide)).1 h65
            rw [if_pos hc] at hx
            refine br_t (decide_eq_true (by omega)) ?_
            have hW := hA t d hl'
            rw [hx] at hW
            conv => whnf
            refine ⟨⟨by omega, by simp only [List.length_cons]; omega, by omega⟩, ?_⟩
            rw [hdr]
            conv => whnf
            rw [hdep]
            refine Call2.mono hW fun r0 H0 h => ?_
            obtain ⟨d2, h3, h4⟩ := h
            rw [h3, h4]
            clear h3 h4 r0 H0
            conv => whnf
            exact ⟨d2, rfl, rfl⟩
          · have hc65 : c ≠ 65 := fun h => h65 (by rw [h]; rfl)
            rw [if_neg hc65] at hx
            refine br_f (decide_eq_false (by omega)) ?_
            conv => whnf
            by_cases h70 : c.toNat = 70
            · have hc : c = 70 := (u8_ne (by decide)).1 h70
              rw [if_pos hc] at hx
              refine br_t (decide_eq_true (by omega)) ?_
              have hW := hF t d hl'
              rw [hx] at hW
              conv => whnf
              refine ⟨⟨by omega, by simp only [List.length_cons]; omega, by omega⟩, ?_⟩
              rw [hdr]
              conv => whnf
              rw [hdep]
              refine Call2.mono hW fun r0 H0 h => ?_
              obtain ⟨d2, h3, h4⟩ := h
              rw [h3, h4]
              clear h3 h4 r0 H0
              conv => whnf
              exact ⟨d2, rfl, rfl⟩
            · have hc70 : c ≠ 70 := fun h => h70 (by rw [h]; rfl)
              rw [if_neg hc70] at hx
              refine br_f (decide_eq_false (by omega)) ?_
              conv => whnf
              exact ⟨d, rfl, by rw [← hx]; rfl⟩

theorem value_ct (G : Nat → Option (List V)) (hG : G 1 = some wV) : ∀ r, r ≤ 31 → ValOk G r := by
  intro r
  induction r with
  | zero =>
    intro _ s d hs
    refine value_core G hG (withF 33 fun _ => ([], 0)) (withF 33 fun _ => ([], 0)) _ 33 rfl (fun s d hs => ?_) (fun s d hs => ?_) s d hs
    · exact within_ct G hG 98 fn98 33 _ (fun h => by omega) (fun s hs _ => by cases s <;> simp at hs ⊢) s hs d
    · exact within_ct G hG 90 fn90 33 _ (fun h => by omega) (fun s hs _ => by cases s <;> simp at hs ⊢) s hs d
  | succ r ih =>
    intro hr s d hs
    have ih := ih (by omega)
    refine value_core G hG (withF (32 - (r : Int)) (valF r)) (withF (32 - (r : Int)) (fldF (valF r))) _ (32 - (r : Int)) (by rw [wrap_i64 (by omega) (by omega)]; omega) (fun s d hs => ?_) (fun s d hs => ?_) s d hs
    · exact within_ct G hG 98 fn98 _ _ (fun _ s d hs => ih s d hs) (fun s _ => valF_len r s) s hs d
    · exact within_ct G hG 90 fn90 _ _ (fun _ s d hs => field_ct G hG r ih s d hs) (fun s _ => fldF_len (valF_len r) s) s hs d

/-- What a table's fields within the first level answer. -/
def tabF (s : List UInt8) : List UInt8 × Int := withF 1 (fldF (valF 31)) s
def takenF (s : List UInt8) (x : List UInt8 × Int) : List UInt8 × List UInt8 × Int := if x.2 ≠ 0 then ([], [], x.2) else (s.take (s.length - x.1.length), x.1, 0)
/-- What table.Take answers. -/
def tblF (s : List UInt8) : List UInt8 × List UInt8 × Int := takenF s (tabF s)

theorem taken_ct (G : Nat → Option (List V)) (s rest : List UInt8) (e : Int) (hs : s.length ≤ maxBytes) (hr : e = 0 → rest.length ≤ s.length) (H : Heap) : Call2 Go.Proofs.Tryd.prog G 91 [.str s, .str rest, .int .i64 e] H fun r H' => H' = H ∧ r = ssV (takenF s (rest, e)) := by
  refine Call2.free (fun x hx => by
    simp only [List.mem_cons, List.not_mem_nil, or_false] at hx
    rcases hx with rfl | rfl | rfl
    · exact .str _
    · exact .str _
    · exact .im _) ?_ H
  refine stCall2 Go.Proofs.Tryd.func91 rfl (by decide) ?_
  have hs' : s.length ≤ 140737488355328 := hs
  unfold takenF
  conv => whnf
  by_cases he : e ≠ 0
  · refine br_t (decide_eq_true he) ?_
    conv => whnf
    rw [if_pos he]
    exact ⟨ssV_free ([], [], e), rfl⟩
  · refine br_f (decide_eq_false he) ?_
    rw [if_neg he]
    have hr := hr (by simpa using he)
    have hw : IntKind.i64.wrap ((s.length : Int) - (rest.length : Int)) = ((s.length - rest.length : Nat) : Int) := by rw [wrap_i64 (by omega) (by omega)]; omega
    conv => whnf
    rw [hw]
    refine ⟨⟨by omega, by omega, by omega⟩, ?_⟩
    conv => whnf
    exact ⟨ssV_free (s.take (s.length - rest.length), rest, 0), rfl⟩

theorem table_ct (G : Nat → Option (List V)) (hG : G 1 = some wV) (s : List UInt8) (hs : s.length ≤ maxBytes) (H : Heap) : Call2 Go.Proofs.Tryd.prog G 81 [.str s] H fun r H' => H' = H ∧ r = ssV (tblF s) := by
  refine Call2.free (fun x hx => by
    simp only [List.mem_cons, List.not_mem_nil, or_false] at hx
    subst hx
    exact .str _) ?_ H
  refine stCall2 Go.Proofs.Tryd.func81 rfl (by decide) ?_
  have hwi := within_ct G hG 90 fn90 1 (fldF (valF 31)) (fun _ s d hs => field_ct G hG 31 (value_ct G hG 31 (by omega)) s d hs) (fun s _ => fldF_len (valF_len 31) s) s hs 0
  have hl := withF_len 1 (fldF (valF 31)) s
  unfold tblF tabF
  generalize withF 1 (fldF (valF 31)) s = x at hwi hl
  obtain ⟨rest, e⟩ := x
  have ht := taken_ct G s rest e hs hl
  unfold seV at hwi
  unfold ssV at ht
  conv => whnf
  refine Call2.mono (sizes_ct G) fun r0 H0 h => ?_
  obtain ⟨h1, h2⟩ := h
  rw [h1, h2]
  clear h1 h2 r0 H0
  conv => whnf
  refine Call2.mono hwi fun r0 H0 h => ?_
  obtain ⟨d2, h1, h2⟩ := h
  rw [h1, h2]
  clear h1 h2 r0 H0
  conv => whnf
  refine Call2.mono (ht _) fun r0 H0 h => ?_
  obtain ⟨h1, h2⟩ := h
  rw [h1, h2]
  clear h1 h2 r0 H0
  conv => whnf
  exact ⟨ssV_free _, rfl⟩
end Go.Abs.Sig

/-! P5 -/
namespace Go.Abs.Sig
open Go.RowKit Go.Abs
set_option linter.unusedSimpArgs false
set_option linter.unusedVariables false
set_option maxRecDepth 8000
attribute [local irreducible] StCall StYield WPc Weak IterOf Lp2

/-- Is a value a table? -/
def tbBad (s : List UInt8) : Bool := bsel (decide ((tblF s).2.2 ≠ 0)) true (bsel (decide ((tblF s).2.1 ≠ [])) true (decide ((tblF s).1 = [])))
def tbv (v : Val') : Int := if v.1 ≠ 0 then 1 else if tbBad v.2 then 3 else 0

theorem wtab_ct (G : Nat → Option (List V)) (hG : G 1 = some wV) (v : Val') (hs : v.2.length ≤ maxBytes) (H : Heap) : Call2 Go.Proofs.Tryd.prog G 63 [.int .i64 (-1), .agg (vcells v)] H fun r H' => H' = H ∧ r = .int .i64 (tbv v) := by
  refine Call2.free (fun x hx => by
    simp only [List.mem_cons, List.not_mem_nil, or_false] at hx
    rcases hx with rfl | rfl
    · exact .im _
    · exact vcells_free v) ?_ H
  refine stCall2 Go.Proofs.Tryd.func63 rfl (by decide) ?_
  have ht := table_ct G hG v.2 hs
  unfold tbv tbBad
  generalize tblF v.2 = x at ht
  obtain ⟨a, rest, e⟩ := x
  unfold ssV at ht
  conv => whnf
  by_cases h0 : v.1 ≠ 0
  · refine br_t (decide_eq_true h0) ?_
    conv => whnf
    rw [if_pos h0]
    exact ⟨.im _, rfl⟩
  · refine br_f (decide_eq_false h0) ?_
    rw [if_neg h0]
    conv => whnf
    refine Call2.mono (ht _) fun r0 H0 h => ?_
    obtain ⟨h1, h2⟩ := h
    rw [h1, h2]
    clear h1 h2 r0 H0
    conv => whnf
    simp only
    by_cases he : e ≠ 0
    · have hd := decide_eq_true he
      refine br_t hd ?_
      rw [hd]
      conv => whnf
      exact ⟨.im _, rfl⟩
    · have hd := decide_eq_false he
      refine br_f hd ?_
      rw [hd]
      by_cases hr : rest ≠ []
      · have hdr := decide_eq_true hr
        rw [hdr]
        conv => whnf
        rw [hdr]
        conv => whnf
        exact ⟨.im _, rfl⟩
      · have hdr := decide_eq_false hr
        rw [hdr]
        conv => whnf
        rw [hdr]
        conv => whnf
        by_cases ha : a = []
        · have hda := decide_eq_true ha
          rw [hda]
          conv => whnf
          exact ⟨.im _, rfl⟩
        · have hda := decide_eq_false ha
          rw [hda]
          conv => whnf
          exact ⟨.im _, rfl⟩

theorem tbOk (G : Nat → Option (List V)) (hG : G 1 = some wV) : TbOk G tbv := by
  intro v q H hv h2 hq
  refine Call2.inScope ⟨_, Go.Proofs.Tryd.func66, rfl, by decide⟩ fun hs => ?_
  refine Call2.cut ?_
  refine stCall2 Go.Proofs.Tryd.func66 rfl (by decide) ?_
  conv => whnf
  rw [get_old h2]
  conv => whnf
  rw [get_old hq]
  conv => whnf
  try simp only [List.append_assoc, List.cons_append, List.nil_append, List.length_append, List.length_cons, List.length_nil, Nat.zero_add, Nat.add_assoc, Nat.reduceAdd, ga0, ga1, ga2, ga3, ga4, ga5, sa0, sa1, sa2, sa3, sa4, sa5, S2.setH_H, List.all_cons, List.all_nil, isDefd, nodupB, List.any_nil, Bool.and_true, Bool.not_false, List.foldl_cons, List.foldl_nil]
  conv => whnf
  refine Call2.mono (wtab_ct G hG v hv _) fun r0 H0 h => ?_
  obtain ⟨h1, h2⟩ := h
  rw [h1, h2]
  clear h1 h2 r0 H0
  conv => whnf
  exact ⟨_, Cut.app (X := [some (.cells 32 (vcells v))]) hs rfl, .im _, rfl, rfl⟩
end Go.Abs.Sig

/-! N9 -/
namespace Go.Abs.Sig
open Go.RowKit Go.Abs
set_option linter.unusedSimpArgs false
set_option linter.unusedVariables false
set_option maxRecDepth 8000
attribute [local irreducible] StCall StYield WPc Weak IterOf Lp2

theorem shownM_ct (G : Nat → Option (List V)) (hG : G 1 = some wV) (H : Heap) : Call2 Go.Proofs.Tryd.prog G 22 [] H fun r H' => H' = H ∧ r = .bool true := by
  refine Call2.free (fun x hx => by cases hx) ?_ H
  refine stCall2 Go.Proofs.Tryd.func22 rfl (by decide) ?_
  have hm := mbytes_ct G hG tbv (10, 51, []) (fun h => tbOk G hG) (fun v hv => by cases hv)
  have he : mbytes tbv (10, 51, []) = ([0, 10, 0, 51], 0) := by decide
  rw [he] at hm
  conv => whnf
  refine Call2.mono (Call2.weakA (.cons (vw_metE (l := []) (.inr rfl)) .nil) (hm _)) fun r0 H0 h => ?_
  obtain ⟨h1, h2⟩ := h
  rw [h1, h2]
  clear h1 h2 r0 H0
  conv => whnf
  exact ⟨.im _, rfl⟩

theorem methodArgs_ct (G : Nat → Option (List V)) (hG : G 1 = some wV) (m : Met) (i : Int) (v : Val') (hb : m.2.2.length * 24 ≤ maxBytes) (H : Heap) :
    Call2 Go.Proofs.Tryd.prog G 8 [.agg (mcells m), .int .i64 i, .agg (vcells v)] H fun r H' => H' = H ∧ r = .bool true := by
  refine Call2.free wargs_free ?_ H
  refine stCall2 Go.Proofs.Tryd.func8 rfl (by decide) ?_
  have hl : m.2.2.length ≤ maxLen := by simp only [maxBytes] at hb; simp only [maxLen]; omega
  have hs := rsame_ct G (withOf m i v) (withOf m i v) (by unfold withOf; split <;> simpa using hl)
  rw [decide_eq_true rfl] at hs
  conv => whnf
  refine Call2.mono (shownM_ct G hG _) fun r0 H0 h => ?_
  obtain ⟨h1, h2⟩ := h
  rw [h1, h2]
  clear h1 h2 r0 H0
  conv => whnf
  intro hw
  refine wpc_draw2 10 (by rfl) (by decide) (by decide) hw ?_
  conv => whnf
  refine ⟨_, fun _ _ => with_ct G m i v hb _, ?_⟩
  conv => whnf
  refine ⟨_, fun _ _ => rwith_ct G m i v hb _, ?_⟩
  conv => whnf
  refine ⟨_, fun _ _ => hs _, ?_⟩
  conv => whnf
  intro hw2
  refine wpc_draw2 14 (by rfl) (by decide) (by decide) hw2 ?_
  conv => whnf
  refine ⟨_, fun _ _ => arg_ct G m i _, ?_⟩
  conv => whnf
  refine ⟨_, fun _ _ => rarg_ct G m i _, ?_⟩
  conv => whnf
  refine EqT.eql eqT32 flat32 (eq32 _ _) ?_
  conv => whnf
  refine ⟨.im _, ?_⟩
  show V.bool (decide (argOf m i = argOf m i)) = V.bool true
  simp

/-- What MethodArg is asked of. -/
def maCells (m : Met) (i : Int) (v : Val') (k : Int) : List V := mcells m ++ [.int .i64 i] ++ vcells v ++ [.int .i64 k]

theorem argOf_with (m : Met) (i : Int) (v : Val') (k : Int) (h : out m i = false) : argOf (withOf m i v) k = if k = i then v else argOf m k := by
  have hw : withOf m i v = (m.1, m.2.1, m.2.2.set i.toNat v) := by unfold withOf; rw [h]; rfl
  rw [hw]
  unfold out at h
  simp only [Bool.or_eq_false_iff, decide_eq_false_iff_not] at h
  have ho : out (m.1, m.2.1, m.2.2.set i.toNat v) k = out m k := by simp [out]
  unfold argOf
  rw [ho]
  cases hk : out m k with
  | true =>
    have : k ≠ i := by
      rintro rfl
      unfold out at hk
      simp only [Bool.or_eq_true, decide_eq_true_eq] at hk
      omega
    simp [this]
  | false =>
    unfold out at hk
    simp only [Bool.or_eq_false_iff, decide_eq_false_iff_not] at hk
    simp only [Bool.false_eq_true, if_false]
    by_cases hki : k = i
    · subst hki
      rw [if_pos rfl, List.getElem?_set_self (by omega)]
      rfl
    · rw [if_neg hki, List.getElem?_set_ne (by omega)]

theorem vv (x : Val') : (decide (x.1 = x.1) && (decide (x.2 = x.2) && true)) = true := by simp
theorem methodArg_ct (G : Nat → Option (List V)) (hG : G 1 = some wV) (m : Met) (i : Int) (v : Val') (k : Int) (hb : m.2.2.length * 24 ≤ maxBytes) (H : Heap) :
    Call2 Go.Proofs.Tryd.prog G 10 [.agg (maCells m i v k)] H fun r H' => H' = H ∧ r = .bool true := by
  refine Call2.free (fun x hx => by
    simp only [List.mem_cons, List.not_mem_nil, or_false] at hx
    subst hx
    refine .agg _ fun y hy => ?_
    simp only [maCells, mcells, vcells, List.mem_append, List.mem_cons, List.not_mem_nil, or_false] at hy
    rcases hy with ((((rfl | rfl | rfl) | rfl) | rfl | rfl) | rfl)
    · exact .im _
    · exact .im _
    · exact .dat _ _ _ (by simp)
    · exact .im _
    · exact .im _
    · exact .str _
    · exact .im _) ?_ H
  refine stCall2 Go.Proofs.Tryd.func10 rfl (by decide) ?_
  have hl : m.2.2.length ≤ maxLen := by simp only [maxBytes] at hb; simp only [maxLen]; omega
  conv => whnf
  refine Call2.mono (shownM_ct G hG _) fun r0 H0 h => ?_
  obtain ⟨h1, h2⟩ := h
  rw [h1, h2]
  clear h1 h2 r0 H0
  conv => whnf
  refine Call2.mono (with_ct G m i v hb _) fun r0 H0 h => ?_
  obtain ⟨h1, h2⟩ := h
  rw [h1, h2]
  clear h1 h2 r0 H0
  conv => whnf
  have hws : withOf m i v = m → ∀ H, Call2 Go.Proofs.Tryd.prog G 25 [.agg (mcells (withOf m i v)), .agg (mcells m)] H fun r H' => H' = H ∧ r = .bool true := fun h H => by
    have := rsame_ct G (withOf m i v) m (by rw [h]; exact hl) H
    rwa [decide_eq_true h] at this
  by_cases h0 : i < 0
  · have ho : out m i = true := by simp [out, h0]
    have hd := decide_eq_true h0
    rw [hd]
    conv => whnf
    have hwm : withOf m i v = m := by unfold withOf; rw [ho]; rfl
    have ha : argOf m i = (0, []) := by unfold argOf; rw [ho]; rfl
    refine Call2.mono (hws hwm _) fun r0 H0 h => ?_
    obtain ⟨h1, h2⟩ := h
    rw [h1, h2]
    clear h1 h2 r0 H0
    conv => whnf
    refine Call2.mono (arg_ct G m i _) fun r0 H0 h => ?_
    obtain ⟨h1, h2⟩ := h
    rw [h1, h2]
    clear h1 h2 r0 H0
    conv => whnf
    rw [ha]
    refine EqT.eql eqT32 flat32 (eq32 (0, []) (0, [])) ?_
    conv => whnf
    exact ⟨.im _, rfl⟩
  · have hd := decide_eq_false h0
    rw [hd]
    by_cases h1 : i ≥ (m.2.2.length : Int)
    · have ho : out m i = true := by simp [out, h1]
      have hd1 : decide (((vals m.2.2).length : Int) ≤ i) = true := decide_eq_true (by simpa [vals] using h1)
      conv => whnf
      refine br_t hd1 ?_
      conv => whnf
      have hwm : withOf m i v = m := by unfold withOf; rw [ho]; rfl
      have ha : argOf m i = (0, []) := by unfold argOf; rw [ho]; rfl
      refine Call2.mono (hws hwm _) fun r0 H0 h => ?_
      obtain ⟨h1, h2⟩ := h
      rw [h1, h2]
      clear h1 h2 r0 H0
      conv => whnf
      refine Call2.mono (arg_ct G m i _) fun r0 H0 h => ?_
      obtain ⟨h1, h2⟩ := h
      rw [h1, h2]
      clear h1 h2 r0 H0
      conv => whnf
      rw [ha]
      refine EqT.eql eqT32 flat32 (eq32 (0, []) (0, [])) ?_
      conv => whnf
      exact ⟨.im _, rfl⟩
    · have ho : out m i = false := by simp [out, h0, h1]
      have hd1 : decide (((vals m.2.2).length : Int) ≤ i) = false := decide_eq_false (by simpa [vals] using h1)
      conv => whnf
      refine br_f hd1 ?_
      conv => whnf
      intro hw
      have ai := argOf_with m i v i ho
      rw [if_pos rfl] at ai
      have hwl : (vals (withOf m i v).2.2).length = (vals m.2.2).length := by unfold withOf; rw [ho]; simp [vals]
      refine wpc_draw2 32 (by rfl) (by decide) (by decide) hw ?_
      conv => whnf
      refine ⟨_, fun _ _ => arg_ct G (withOf m i v) i _, ?_⟩
      rw [ai]
      conv => whnf
      refine EqT.eql eqT32 flat32 (eq32 v v) ?_
      rw [decide_eq_true rfl]
      conv => whnf
      by_cases hki : k = i
      · have hdk := decide_eq_true hki
        rw [hdk]
        conv => whnf
        refine ⟨.im _, ?_⟩
        show V.bool (decide (((vals (withOf m i v).2.2).length : Int) = ((vals m.2.2).length : Int))) = _
        rw [hwl]
        simp
      · have hdk := decide_eq_false hki
        have ak := argOf_with m i v k ho
        rw [if_neg hki] at ak
        rw [hdk]
        conv => whnf
        refine ⟨_, fun _ _ => arg_ct G (withOf m i v) k _, ?_⟩
        rw [ak]
        conv => whnf
        refine ⟨_, fun _ _ => arg_ct G m k _, ?_⟩
        conv => whnf
        refine EqT.eql eqT32 flat32 (eq32 _ _) ?_
        rw [decide_eq_true rfl]
        conv => whnf
        refine ⟨.im _, ?_⟩
        show V.bool (decide (((vals (withOf m i v).2.2).length : Int) = ((vals m.2.2).length : Int))) = _
        rw [hwl]
        simp
end Go.Abs.Sig

/-! SH1 -/
namespace Go.Abs.Sig
open Go.RowKit Go.Abs Go.ChangeShapes Go.WideShapes Go.ChangeAt
set_option linter.unusedSimpArgs false
set_option linter.unusedVariables false
set_option maxRecDepth 8000

theorem reach_le : reachBytes ≤ maxBytes := by decide

theorem sh_int {n : Nat} {t : TypeId} {k : IntKind} {vs : List V} (hu : Program.underlying Go.Proofs.Tryd.prog t = some (.int k)) (h : Sh Go.Proofs.Tryd.prog (n + 1) t vs) : ∃ x, vs = [.im (.int k x)] ∧ (Lit.int k x).wf = true := by
  unfold Sh at h
  rw [hu] at h
  exact h
theorem sh_bool {n : Nat} {t : TypeId} {vs : List V} (hu : Program.underlying Go.Proofs.Tryd.prog t = some .bool) (h : Sh Go.Proofs.Tryd.prog (n + 1) t vs) : ∃ b, vs = [.im (.bool b)] := by
  unfold Sh at h
  rw [hu] at h
  exact h
theorem sh_str {n : Nat} {t : TypeId} {vs : List V} (hu : Program.underlying Go.Proofs.Tryd.prog t = some .string) (h : Sh Go.Proofs.Tryd.prog (n + 1) t vs) : ∃ l : List UInt8, vs = [.str l] ∧ l.length ≤ maxBytes := by
  unfold Sh at h
  rw [hu] at h
  obtain ⟨l, h1, h2⟩ := h
  exact ⟨l, h1, Nat.le_trans h2 reach_le⟩
theorem sh_slice {n : Nat} {t e : TypeId} {vs : List V} (hu : Program.underlying Go.Proofs.Tryd.prog t = some (.slice e)) (h : Sh Go.Proofs.Tryd.prog (n + 1) t vs) : ∃ rows, vs = [.dat (Program.cellsOf Go.Proofs.Tryd.prog e) rows .no] ∧ rows.length * Program.bytesOf Go.Proofs.Tryd.prog e ≤ reachBytes ∧ ∀ r ∈ rows, Sh Go.Proofs.Tryd.prog n e r := by
  unfold Sh at h
  rw [hu] at h
  exact h
theorem sh_struct {n : Nat} {t : TypeId} {fs : Array Field} {vs : List V} (hu : Program.underlying Go.Proofs.Tryd.prog t = some (.struct fs)) (h : Sh Go.Proofs.Tryd.prog (n + 1) t vs) : ShFs (Sh Go.Proofs.Tryd.prog n) fs.toList vs := by
  unfold Sh at h
  rw [hu] at h
  exact h

theorem wf_u64 {n : Int} (h : (Lit.int .u64 n).wf = true) : 0 ≤ n ∧ n ≤ 18446744073709551615 := by
  simp only [Lit.wf, Bool.and_eq_true, decide_eq_true_eq] at h
  exact h

/-- Rows of a kind. -/
theorem rows_of {α : Type} {f : α → List V} {Q : α → Prop} : ∀ (rows : List (List V)), (∀ r ∈ rows, ∃ x, r = f x ∧ Q x) → ∃ l : List α, rows = l.map f ∧ ∀ x ∈ l, Q x
  | [], _ => ⟨[], rfl, fun x h => by cases h⟩
  | r :: rows, h => by
    obtain ⟨x, rfl, hx⟩ := h r (by simp)
    obtain ⟨l, rfl, hl⟩ := rows_of rows fun r hr => h r (by simp [hr])
    exact ⟨x :: l, rfl, fun y hy => by
      rcases List.mem_cons.1 hy with rfl | hy
      · exact hx
      · exact hl y hy⟩

/-- A value that may be there. -/
def OkVal (v : Val') : Prop := (0 ≤ v.1 ∧ v.1 ≤ 18446744073709551615) ∧ v.2.length ≤ maxBytes
def OkMet (m : Met) : Prop := (-9223372036854775808 ≤ m.1 ∧ m.1 ≤ 9223372036854775807) ∧ (-9223372036854775808 ≤ m.2.1 ∧ m.2.1 ≤ 9223372036854775807) ∧ m.2.2.length * 24 ≤ reachBytes ∧ ∀ v ∈ m.2.2, OkVal v

theorem sh_val {n : Nat} {vs : List V} (h : Sh Go.Proofs.Tryd.prog (n + 2) 32 vs) : ∃ v : Val', vs = [.int .u64 v.1, .str v.2] ∧ OkVal v := by
  obtain ⟨p, q, h1, ⟨p', q', h2, rfl, rfl⟩, rfl⟩ := sh_struct Go.Proofs.Tryd.underlying32 h
  obtain ⟨x, rfl, hx⟩ := sh_int Go.Proofs.Tryd.underlying30 h1
  obtain ⟨l, rfl, hl⟩ := sh_str Go.Proofs.Tryd.underlying9 h2
  exact ⟨(x, l), rfl, wf_u64 hx, hl⟩

theorem sh_met {n : Nat} {vs : List V} (h : Sh Go.Proofs.Tryd.prog (n + 4) 26 vs) : ∃ m : Met, vs = mcells m ∧ OkMet m := by
  obtain ⟨p, q, h1, ⟨p', q', h2, ⟨p'', q'', h3, rfl, rfl⟩, rfl⟩, rfl⟩ := sh_struct Go.Proofs.Tryd.underlying26 h
  obtain ⟨a, rfl, ha⟩ := sh_int Go.Proofs.Tryd.underlying3 h1
  obtain ⟨b, rfl, hb⟩ := sh_int Go.Proofs.Tryd.underlying3 h2
  obtain ⟨rows, rfl, hr, he⟩ := sh_slice Go.Proofs.Tryd.underlying24 h3
  obtain ⟨l, rfl, hl⟩ := rows_of (f := fun v : Val' => [.int .u64 v.1, .str v.2]) rows fun r hr => sh_val (he r hr)
  have hc : Program.cellsOf Go.Proofs.Tryd.prog 32 = 2 := by kernel_rfl
  have hby : Program.bytesOf Go.Proofs.Tryd.prog 32 = 24 := by kernel_rfl
  rw [hc]
  rw [hby, List.length_map] at hr
  exact ⟨(a, b, l), rfl, wf_i64 ha, wf_i64 hb, hr, hl⟩

theorem shv_met {n : Nat} {x : V} (h : ShV Go.Proofs.Tryd.prog (n + 4) 26 x) : ∃ m : Met, x = .agg (mcells m) ∧ OkMet m := by
  have ha : aggT Go.Proofs.Tryd.prog 26 = true := by kernel_rfl
  unfold ShV at h
  rw [ha] at h
  obtain ⟨vs, rfl, h⟩ := h
  obtain ⟨m, rfl, hm⟩ := sh_met h
  exact ⟨m, rfl, hm⟩
theorem shv_val {n : Nat} {x : V} (h : ShV Go.Proofs.Tryd.prog (n + 2) 32 x) : ∃ v : Val', x = .agg [.int .u64 v.1, .str v.2] ∧ OkVal v := by
  have ha : aggT Go.Proofs.Tryd.prog 32 = true := by kernel_rfl
  unfold ShV at h
  rw [ha] at h
  obtain ⟨vs, rfl, h⟩ := h
  obtain ⟨m, rfl, hm⟩ := sh_val h
  exact ⟨m, rfl, hm⟩
theorem shv_int {n : Nat} {x : V} (h : ShV Go.Proofs.Tryd.prog (n + 1) 3 x) : ∃ i : Int, x = .int .i64 i ∧ (-9223372036854775808 ≤ i ∧ i ≤ 9223372036854775807) := by
  have ha : aggT Go.Proofs.Tryd.prog 3 = false := by kernel_rfl
  unfold ShV at h
  rw [ha] at h
  obtain ⟨i, h1, h2⟩ := sh_int Go.Proofs.Tryd.underlying3 h
  rw [List.cons.injEq] at h1
  exact ⟨i, h1.1, wf_i64 h2⟩
theorem shv_str {n : Nat} {x : V} (h : ShV Go.Proofs.Tryd.prog (n + 1) 9 x) : ∃ l : List UInt8, x = .str l ∧ l.length ≤ maxBytes := by
  have ha : aggT Go.Proofs.Tryd.prog 9 = false := by kernel_rfl
  unfold ShV at h
  rw [ha] at h
  obtain ⟨i, h1, h2⟩ := sh_str Go.Proofs.Tryd.underlying9 h
  rw [List.cons.injEq] at h1
  exact ⟨i, h1.1, h2⟩
theorem shv_ma {n : Nat} {x : V} (h : ShV Go.Proofs.Tryd.prog (n + 5) 53 x) : ∃ (m : Met) (i : Int) (v : Val') (k : Int), x = .agg (mcells m ++ [.int .i64 i] ++ [.int .u64 v.1, .str v.2] ++ [.int .i64 k]) ∧ OkMet m := by
  have ha : aggT Go.Proofs.Tryd.prog 53 = true := by kernel_rfl
  unfold ShV at h
  rw [ha] at h
  obtain ⟨vs, rfl, h⟩ := h
  obtain ⟨p, q, h1, ⟨p', q', h2, ⟨p'', q'', h3, ⟨p3, q3, h4, rfl, rfl⟩, rfl⟩, rfl⟩, rfl⟩ := sh_struct Go.Proofs.Tryd.underlying53 h
  obtain ⟨m, rfl, hm⟩ := sh_met h1
  obtain ⟨i, rfl, _⟩ := sh_int Go.Proofs.Tryd.underlying3 h2
  obtain ⟨v, rfl, _⟩ := sh_val h3
  obtain ⟨k, rfl, _⟩ := sh_int Go.Proofs.Tryd.underlying3 h4
  exact ⟨m, i, v, k, by simp, hm⟩
end Go.Abs.Sig

/-! WGlob -/
namespace Go.Abs.Sig
open Go.RowKit Go.Abs Go.ChangeShapes Go.WideShapes Go.ChangeAt
set_option linter.unusedSimpArgs false
set_option linter.unusedVariables false
set_option maxRecDepth 8000

def laidW : List (String × DataW Unit) := [("interchange/num.widths", Go.Proofs.YteklnflddoekfaaDoor.Rows.laid_interchange_num_widths)]
def wInts : List Int := [1, 2, 4, 8]
theorem laidW_eq : (Go.Proofs.YteklnflddoekfaaDoor.Rows.laid_interchange_num_widths : DataW Unit) = .agg (wInts.map fun n => .lit (.int .i64 n)) := rfl

theorem gW : Program.globalNamed Go.Proofs.Tryd.prog "interchange/num.widths" = some 1 := by kernel_rfl
theorem tW : (Go.Proofs.Tryd.prog.globals[1]?).map (·.type) = some 136 := by kernel_rfl
def GW (g : Nat) : Option (List V) := if g = 1 then some wV else none
theorem GW1 : GW 1 = some wV := rfl

theorem w_cells {enc : TypeId × Value → Unit} {W : World} {sp : Nat → Bool} {held : Bool} {b f0 : Nat} {l : List Value} {p0 : List MemPlace} (hd : DataW.trod enc Go.Proofs.Tryd.prog W b sp held f0 136 l = some (.agg (wInts.map fun n => .lit (.int .i64 n)), p0)) (i : Nat) (n : Int) (hr : wInts[i]? = some n) :
    l[i]? = some (.int .i64 n) := by
  have c3 : Program.cellsOf Go.Proofs.Tryd.prog 3 = 1 := by kernel_rfl
  obtain ⟨xs, m, _, hx, hlen, hn, hel⟩ := DataW.trod_array Go.Proofs.Tryd.underlying136 hd
  simp only [Prod.mk.injEq, DataW.agg.injEq] at hx
  have hi : i < 4 := (List.getElem?_eq_some_iff.1 hr).1
  have hxi : (xs.map (·.1))[i]? = some (.lit (.int .i64 n)) := by rw [← hx.1, List.getElem?_map, hr]; rfl
  rw [List.getElem?_map] at hxi
  obtain ⟨y, hy, hye⟩ := Option.map_eq_some_iff.1 hxi
  have he := hel i hi
  rw [c3, hy] at he
  obtain ⟨k1, g1, g1', _⟩ := DataW.trod_int Go.Proofs.Tryd.underlying3 he
  rw [g1'] at hye
  simp only [DataW.lit.injEq, Lit.int.injEq, true_and] at hye
  subst hye
  have h0 : ((l.drop (i * 1)).take 1)[0]? = some (.int .i64 k1) := by rw [g1]; rfl
  rw [List.getElem?_take_of_lt (by omega), List.getElem?_drop] at h0
  simpa using h0

theorem glob_GW {W : World} (h : laidMetH Go.Proofs.Tryd.prog laidW W) : ∀ g cs, GW g = some cs → Rep W (Env.all W) (.rp cs) (.pointer (some ⟨g, 0, none⟩)) := by
  intro g cs hg
  rw [MakeChecks.laidMetH_plain _ _ _ (by kernel_rfl)] at h
  obtain ⟨ps, ⟨g0, t0, cs0, f0, p0, q0, hg0, ht0, hv0, hd0, _, _⟩, _, _⟩ := h
  obtain rfl := Option.some.inj (gW.symm.trans hg0)
  obtain rfl := Option.some.inj (tW.symm.trans ht0)
  have hcell : ∀ j, W.cell? ⟨1, j, none⟩ = cs0[j]? := fun j => World.var?_cell hg0 hv0 j
  unfold GW at hg
  split at hg
  · rename_i h1
    subst h1
    obtain rfl : wV = cs := Option.some.inj hg
    refine rep_glob (fun j => (W.cell? ⟨1, j, none⟩).getD (.int .i64 0)) fun j v hv => ?_
    have hj : j < 4 := (List.getElem?_eq_some_iff.1 hv).1
    obtain ⟨n, hr⟩ : ∃ n, wInts[j]? = some n := ⟨_, List.getElem?_eq_getElem (by show j < 4; exact hj)⟩
    have c0 := w_cells hd0 j n hr
    have hv' : v = .int .i64 n := by
      have : wV = wInts.map fun n => V.int .i64 n := rfl
      rw [this, List.getElem?_map, hr] at hv
      exact (Option.some.inj hv).symm
    have hc : cs0[j]? = some (.int .i64 n) := by simpa using c0
    rw [hcell j, hc, hv']
    exact ⟨rfl, rfl⟩
  · cases hg

/-- The door's own heap meets the condition. -/
theorem doorW_met (os : Os) (args : Array Value) : laidMetH Go.Proofs.Tryd.prog laidW ((World.doorLaid Go.Proofs.Tryd.prog 400 os).forCall (fun _ _ => 0) ⟨#[], args, []⟩).memory :=
  laidMetH_of_parts3 (fuel := 8) (laidMet_of_run' 8 (by kernel_rfl) (by kernel_rfl)) (by kernel_rfl) (by kernel_rfl)
end Go.Abs.Sig

/-! W1 -/
namespace Go.Abs.Sig
open Go.RowKit Go.Abs
set_option linter.unusedSimpArgs false
set_option linter.unusedVariables false
set_option maxRecDepth 8000

theorem okMet_len {m : Met} (h : OkMet m) : m.2.2.length * 24 ≤ maxBytes := Nat.le_trans h.2.2.1 reach_le

theorem methodArgs_walk (xs : List V) (h : ShAll Go.Proofs.Tryd.prog 8 (#[26, 3, 32] : Array TypeId).toList xs) : Call2 Go.Proofs.Tryd.prog GW 8 xs [] fun r H' => H' = [] ∧ r = .bool true := by
  obtain ⟨x1, r1, h1, ⟨x2, r2, h2, ⟨x3, r3, h3, rfl, rfl⟩, rfl⟩, rfl⟩ := h
  obtain ⟨m, rfl, hm⟩ := shv_met h1
  obtain ⟨i, rfl, _⟩ := shv_int h2
  obtain ⟨v, rfl, _⟩ := shv_val h3
  exact methodArgs_ct GW GW1 m i v (okMet_len hm) []
theorem methodArg_walk (xs : List V) (h : ShAll Go.Proofs.Tryd.prog 8 (#[53] : Array TypeId).toList xs) : Call2 Go.Proofs.Tryd.prog GW 10 xs [] fun r H' => H' = [] ∧ r = .bool true := by
  obtain ⟨x1, r1, h1, rfl, rfl⟩ := h
  obtain ⟨m, i, v, k, rfl, hm⟩ := shv_ma h1
  exact methodArg_ct GW GW1 m i v k (okMet_len hm) []
end Go.Abs.Sig

/-! N10 -/
namespace Go.Abs.Sig
open Go.RowKit Go.Abs
set_option linter.unusedSimpArgs false
set_option linter.unusedVariables false
set_option maxRecDepth 8000
attribute [local irreducible] StCall StYield WPc Weak IterOf Lp2

theorem mrightT_ct (G : Nat → Option (List V)) (hG : G 1 = some wV) (m : Met) (hm : ∀ v ∈ m.2.2, v.2.length ≤ maxBytes) (H : Heap) : Call2 Go.Proofs.Tryd.prog G 23 [.agg (mcells m)] H fun r H' => H' = H ∧ r = .int .i64 (mright tbv m) :=
  mright_ct G tbv m (fun _ => ⟨tbOk G hG, hm⟩) H

/-! ### the plain law -/
theorem vright_zero (tb : Val' → Int) : ∀ (s : List UInt8) (l : List Val'), s.length = l.length → (vright tb s l = 0 ↔ ∀ (j : Nat) (c : UInt8) (v : Val'), s[j]? = some c → l[j]? = some v → rl tb c v = 0)
  | [], [], _ => ⟨fun _ j c v h => by simp at h, fun _ => rfl⟩
  | [], _ :: _, h => by simp at h
  | _ :: _, [], h => by simp at h
  | c :: s, v :: l, h => by
    have ih := vright_zero tb s l (by simpa using h)
    unfold vright
    by_cases h0 : rl tb c v = 0
    · rw [if_neg (by simpa using h0), ih]
      constructor
      · intro hh j c' v' h1 h2
        cases j with
        | zero => simp at h1 h2; subst h1; subst h2; exact h0
        | succ j => exact hh j c' v' (by simpa using h1) (by simpa using h2)
      · intro hh j c' v' h1 h2
        exact hh (j + 1) c' v' (by simpa using h1) (by simpa using h2)
    · rw [if_pos h0]
      constructor
      · intro hh; exact absurd hh h0
      · intro hh; exact absurd (hh 0 c v rfl rfl) h0

theorem mright_zero (tb : Val' → Int) (m : Met) : mright tb m = 0 ↔ isAt m.1 m.2.1 = true ∧ (rowAt m.1 m.2.1).2.2.1.length = m.2.2.length ∧ vright tb (rowAt m.1 m.2.1).2.2.1 m.2.2 = 0 := by
  unfold mright
  cases hi : isAt m.1 m.2.1
  · simp
  · cases hl : decide (((rowAt m.1 m.2.1).2.2.1.length : Int) ≠ (m.2.2.length : Int))
    · have hl' : (rowAt m.1 m.2.1).2.2.1.length = m.2.2.length := by
        have := of_decide_eq_false hl
        omega
      simp [hl']
    · have hl' : ¬ (rowAt m.1 m.2.1).2.2.1.length = m.2.2.length := by
        have := of_decide_eq_true hl
        omega
      simp [hl']

theorem withOf_in {m : Met} {i : Int} {v : Val'} (ho : out m i = false) : withOf m i v = (m.1, m.2.1, m.2.2.set i.toNat v) := by unfold withOf; rw [ho]; rfl

theorem mright_with {tb : Val' → Int} {m k : Met} {i : Int} (h1 : mright tb m = 0) (h2 : mright tb k = 0) (hc : m.1 = k.1) (hi : m.2.1 = k.2.1) (ho : out m i = false) : mright tb (withOf m i (argOf k i)) = 0 := by
  rw [withOf_in ho]
  rw [mright_zero] at h1 h2 ⊢
  obtain ⟨a1, a2, a3⟩ := h1
  obtain ⟨b1, b2, b3⟩ := h2
  refine ⟨a1, by simpa using a2, ?_⟩
  rw [vright_zero _ _ _ (by simpa using a2)]
  rw [vright_zero _ _ _ a2] at a3
  rw [vright_zero _ _ _ b2] at b3
  intro j c v hj hv
  simp only at hj hv
  unfold out at ho
  simp only [Bool.or_eq_false_iff, decide_eq_false_iff_not] at ho
  by_cases hji : j = i.toNat
  · subst hji
    rw [List.getElem?_set_self (by omega)] at hv
    obtain rfl := Option.some.inj hv
    have hk : out k i = false := by
      unfold out
      rw [← hc, ← hi] at b2
      simp only [Bool.or_eq_false_iff, decide_eq_false_iff_not]
      omega
    have hlt : i.toNat < k.2.2.length := by
      unfold out at hk
      simp only [Bool.or_eq_false_iff, decide_eq_false_iff_not] at hk
      omega
    refine b3 i.toNat c _ (by rw [← hc, ← hi]; exact hj) ?_
    unfold argOf
    rw [hk]
    simp [hlt]
  · rw [List.getElem?_set_ne (Ne.symm hji)] at hv
    exact a3 j c v hj hv

/-! ### the walk -/
def moS (m k n : Met) (i : Int) (j : Nat) : S2 := headS 105 ([.bad, .bad, .int .i64 i, .ptr 0 0, .ptr 1 0, .bad, .bad, .im (.bool true), .ptr 2 0, .im (.int .i64 (j : Int))] ++ List.replicate 95 .bad) [some (.cells 26 (mcells m)), some (.cells 26 (mcells k)), some (.cells 26 (mcells n))] [] none

theorem bws_three (a b c : Met) : BWs 3 [some (.cells 26 (mcells a)), some (.cells 26 (mcells b)), some (.cells 26 (mcells c))] [some (.cells 26 (mcells a)), some (.cells 26 (mcells b)), some (.cells 26 (mcells c))] :=
  .cons (.free (mcells_free' a)) (.cons (.free (mcells_free' b)) (.cons (.free (mcells_free' c)) (.nil _)))

theorem methodOne_ct (G : Nat → Option (List V)) (hG : G 1 = some wV) (m k : Met) (i : Int) (hm : m.2.2.length * 24 ≤ maxBytes) (hms : ∀ v ∈ m.2.2, v.2.length ≤ maxBytes) (hk : k.2.2.length * 24 ≤ maxBytes) (hks : ∀ v ∈ k.2.2, v.2.length ≤ maxBytes) (H : Heap) :
    Call2 Go.Proofs.Tryd.prog G 9 [.agg (mcells m), .agg (mcells k), .int .i64 i] H fun r H' => H' = H ∧ r = .bool true := by
  refine Call2.free (fun x hx => by
    simp only [List.mem_cons, List.not_mem_nil, or_false] at hx
    rcases hx with rfl | rfl | rfl
    · exact mcells_free m
    · exact mcells_free k
    · exact .im _) ?_ H
  refine stCall2 Go.Proofs.Tryd.func9 rfl (by decide) ?_
  conv => whnf
  refine Call2.mono (shownM_ct G hG _) fun r0 H0 h => ?_
  obtain ⟨h1, h2⟩ := h
  rw [h1, h2]
  clear h1 h2 r0 H0
  conv => whnf
  refine Call2.mono (mrightT_ct G hG m hms _) fun r0 H0 h => ?_
  obtain ⟨h1, h2⟩ := h
  rw [h1, h2]
  clear h1 h2 r0 H0
  conv => whnf
  by_cases e1 : mright tbv m ≠ 0
  · rw [decide_eq_true e1]
    conv => whnf
    exact ⟨.im _, rfl⟩
  rw [decide_eq_false e1]
  conv => whnf
  refine Call2.mono (mrightT_ct G hG k hks _) fun r0 H0 h => ?_
  obtain ⟨h1, h2⟩ := h
  rw [h1, h2]
  clear h1 h2 r0 H0
  conv => whnf
  by_cases e2 : mright tbv k ≠ 0
  · rw [decide_eq_true e2]
    conv => whnf
    exact ⟨.im _, rfl⟩
  rw [decide_eq_false e2]
  conv => whnf
  by_cases e3 : m.1 ≠ k.1
  · rw [decide_eq_true e3]
    conv => whnf
    exact ⟨.im _, rfl⟩
  rw [decide_eq_false e3]
  conv => whnf
  by_cases e4 : m.2.1 ≠ k.2.1
  · rw [decide_eq_true e4]
    conv => whnf
    exact ⟨.im _, rfl⟩
  rw [decide_eq_false e4]
  conv => whnf
  by_cases e5 : i < 0
  · rw [decide_eq_true e5]
    conv => whnf
    exact ⟨.im _, rfl⟩
  rw [decide_eq_false e5]
  conv => whnf
  by_cases e6 : ((vals m.2.2).length : Int) ≤ i
  · rw [decide_eq_true e6]
    conv => whnf
    exact ⟨.im _, rfl⟩
  rw [decide_eq_false e6]
  conv => whnf
  have hvl : (vals m.2.2).length = m.2.2.length := by simp [vals]
  have hc : m.1 = k.1 := by simpa using e3
  have hi : m.2.1 = k.2.1 := by simpa using e4
  have ho : out m i = false := by
    unfold out
    simp only [Bool.or_eq_false_iff, decide_eq_false_iff_not]
    omega
  have hmr := mright_with (i := i) (by simpa using e1) (by simpa using e2) hc hi ho
  have hwl : (withOf m i (argOf k i)).2.2.length = m.2.2.length := by rw [withOf_in ho]; simp
  have hwget : ∀ j : Nat, j < m.2.2.length → (withOf m i (argOf k i)).2.2[j]? = if (j : Int) = i then k.2.2[j]? else m.2.2[j]? := by
    intro j hj
    rw [withOf_in ho]
    simp only
    have hlen : k.2.2.length = m.2.2.length := by
      have a := ((mright_zero tbv m).1 (by simpa using e1)).2.1
      have b := ((mright_zero tbv k).1 (by simpa using e2)).2.1
      rw [← hc, ← hi] at b
      omega
    by_cases hji : (j : Int) = i
    · rw [if_pos hji]
      have : i.toNat = j := by omega
      rw [this, List.getElem?_set_self hj]
      have hk' : out k i = false := by
        unfold out
        simp only [Bool.or_eq_false_iff, decide_eq_false_iff_not]
        omega
      unfold argOf
      rw [hk', this]
      simp [hlen, hj]
    · rw [if_neg hji, List.getElem?_set_ne (by omega)]
  have hws : ∀ v ∈ (withOf m i (argOf k i)).2.2, v.2.length ≤ maxBytes := by
    intro v hv
    obtain ⟨j, hj⟩ := List.mem_iff_getElem?.1 hv
    have hjl : j < m.2.2.length := by rw [← hwl]; exact (List.getElem?_eq_some_iff.1 hj).1
    rw [hwget j hjl] at hj
    split at hj
    · exact hks v (List.mem_of_getElem? hj)
    · exact hms v (List.mem_of_getElem? hj)
  intro hw
  refine wpc_drawA2 6 _ (by rfl) (by decide) (by decide) rfl rfl hw ?_
  conv => whnf
  refine ⟨_, fun _ _ => arg_ct G k i _, ?_⟩
  conv => whnf
  refine ⟨_, fun _ _ => with_ct G m i (argOf k i) hm _, ?_⟩
  generalize withOf m i (argOf k i) = n at hmr hwl hwget hws
  have hvn : (vals n.2.2).length = m.2.2.length := by simp [vals, hwl]
  conv => whnf
  have d1 : decide (((vals n.2.2).length : Int) ≠ ((vals m.2.2).length : Int)) = false := by rw [hvn, hvl]; simp
  rw [d1]
  conv => whnf
  refine Call2.mono (mrightT_ct G hG n hws _) fun r0 H0 h => ?_
  obtain ⟨h1, h2⟩ := h
  rw [h1, h2]
  clear h1 h2 r0 H0
  conv => whnf
  rw [hmr]
  conv => whnf
  intro hw2
  have hlk : k.2.2.length = m.2.2.length := by
    have a := ((mright_zero tbv m).1 (by simpa using e1)).2.1
    have b := ((mright_zero tbv k).1 (by simpa using e2)).2.1
    rw [← hc, ← hi] at b
    omega
  refine wpc_loop2 (fun n1 s1 => ∃ j : Nat, j ≤ m.2.2.length ∧ n1 = m.2.2.length - j ∧ s1 = moS m k n i j) m.2.2.length (moS m k n i 0) ?_ ⟨0, by omega, rfl, rfl⟩ ?_ ?_
  · exact weak2 hw2 rfl ⟨.im _, .ptr 0 0 (show 0 < 3 by decide), .ptr 1 0 (show 1 < 3 by decide), .im _, .ptr 2 0 (show 2 < 3 by decide), .im _, trivial⟩ (bws_three _ _ _) (fun id hid => by cases hid) rfl (fun id hid => by cases hid)
  · rintro n1 s1 ⟨j, _, _, rfl⟩
    exact ⟨⟨Nat.le_refl 105, fun x hx => by cases hx⟩, rfl, Nat.le_refl _, rfl⟩
  · rintro n1 s1 ⟨j, hj, rfl, rfl⟩
    by_cases hjl : j < m.2.2.length
    · have hlt : decide ((j : Int) < ((vals n.2.2).length : Int)) = true := decide_eq_true (by omega)
      have hwj : IntKind.i64.wrap ((j : Int) + 1) = ((j + 1 : Nat) : Int) := by rw [wrap_i64 (by omega) (by simp only [maxBytes] at hm; omega)]; rfl
      have hd0 : (true && true && decide ((0 : Int) ≤ (j : Int))) = true := by simp
      obtain ⟨y, hy⟩ : ∃ y, m.2.2[j]? = some y := ⟨_, List.getElem?_eq_getElem hjl⟩
      obtain ⟨z, hz⟩ : ∃ z, k.2.2[j]? = some z := ⟨_, List.getElem?_eq_getElem (by omega)⟩
      have hx := hwget j hjl
      conv => whnf
      refine br_t hlt ?_
      conv => whnf
      intro hw3
      refine wpc_draw2 34 (by rfl) (by decide) (by decide) hw3 ?_
      by_cases hji : (j : Int) = i
      · rw [if_pos hji, hz] at hx
        have dn : decide ((j : Int) ≠ i) = false := by simp [hji]
        have de : decide ((j : Int) = i) = true := by simp [hji]
        conv => whnf
        rw [dn]
        conv => whnf
        rw [de]
        conv => whnf
        refine grd_intro hd0 (optK_intro (vals_get hx) ?_)
        conv => whnf
        refine grd_intro hd0 (optK_intro (vals_get hz) ?_)
        conv => whnf
        refine EqT.neq eqT32 flat32 (eq32 _ _) ?_
        rw [decide_eq_true rfl]
        conv => whnf
        intro hw4
        refine ⟨m.2.2.length - (j + 1), moS m k n i (j + 1), by omega, ?_, j + 1, by omega, rfl, rfl⟩
        exact weak2 hw4 rfl ⟨.im _, .ptr 0 0 (show 0 < 3 by decide), .ptr 1 0 (show 1 < 3 by decide), .im _, .ptr 2 0 (show 2 < 3 by decide), .int hwj, trivial⟩ (bws_three _ _ _) (fun id hid => by cases hid) rfl (fun id hid => by cases hid)
      · rw [if_neg hji, hy] at hx
        have dn : decide ((j : Int) ≠ i) = true := by simp [hji]
        have de : decide ((j : Int) = i) = false := by simp [hji]
        conv => whnf
        rw [dn]
        conv => whnf
        refine grd_intro hd0 (optK_intro (vals_get hx) ?_)
        conv => whnf
        refine grd_intro hd0 (optK_intro (vals_get hy) ?_)
        conv => whnf
        refine EqT.neq eqT32 flat32 (eq32 _ _) ?_
        rw [decide_eq_true rfl]
        conv => whnf
        rw [de]
        conv => whnf
        intro hw4
        refine ⟨m.2.2.length - (j + 1), moS m k n i (j + 1), by omega, ?_, j + 1, by omega, rfl, rfl⟩
        exact weak2 hw4 rfl ⟨.im _, .ptr 0 0 (show 0 < 3 by decide), .ptr 1 0 (show 1 < 3 by decide), .im _, .ptr 2 0 (show 2 < 3 by decide), .int hwj, trivial⟩ (bws_three _ _ _) (fun id hid => by cases hid) rfl (fun id hid => by cases hid)
    · have hge : decide ((j : Int) < ((vals n.2.2).length : Int)) = false := decide_eq_false (by omega)
      conv => whnf
      refine br_f hge ?_
      conv => whnf
      exact ⟨.im _, rfl⟩
end Go.Abs.Sig

/-! W2 -/
namespace Go.Abs.Sig
open Go.RowKit Go.Abs
set_option linter.unusedSimpArgs false
set_option linter.unusedVariables false
set_option maxRecDepth 8000

theorem okMet_str {m : Met} (h : OkMet m) : ∀ v ∈ m.2.2, v.2.length ≤ maxBytes := fun v hv => (h.2.2.2 v hv).2

theorem methodOne_walk (xs : List V) (h : ShAll Go.Proofs.Tryd.prog 8 (#[26, 26, 3] : Array TypeId).toList xs) : Call2 Go.Proofs.Tryd.prog GW 9 xs [] fun r H' => H' = [] ∧ r = .bool true := by
  obtain ⟨x1, r1, h1, ⟨x2, r2, h2, ⟨x3, r3, h3, rfl, rfl⟩, rfl⟩, rfl⟩ := h
  obtain ⟨m, rfl, hm⟩ := shv_met h1
  obtain ⟨k, rfl, hk⟩ := shv_met h2
  obtain ⟨i, rfl, _⟩ := shv_int h3
  exact methodOne_ct GW GW1 m k i (okMet_len hm) (okMet_str hm) (okMet_len hk) (okMet_str hk) []
end Go.Abs.Sig
