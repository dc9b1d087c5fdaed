/- The walks of some functions: what they compute. -/
import Derived.Test.YtdpbkooiibaaaaaGreatDoorT3
import Derived.Test.YtdpbkooiibaaaaaGreatDoorRows
import Derived.LaidMore
import Derived.Stop.Joined
import Derived.Lay

set_option linter.unusedVariables false
set_option linter.unusedSimpArgs false
/-! LQ6 -/
namespace Go.Abs.Sig
open Go.RowKit Go.Abs
set_option linter.unusedSimpArgs false
set_option linter.unusedVariables false
set_option maxRecDepth 8000
attribute [local irreducible] StCall StYield WPc Weak IterOf Lp2

def ins2 : List (Int × Int × Nat) := [(60, 21, 61), (60, 31, 62), (60, 60, 63), (60, 71, 64), (60, 72, 65), (60, 80, 66), (60, 120, 66)]
theorem insE_eq : insE = ins2.map fun x => (k2 x.1 x.2.1, fnv x.2.2) := rfl
theorem ins2_rng : ∀ x ∈ ins2, 61 ≤ x.2.2 ∧ x.2.2 ≤ 66 := by decide
theorem ins2_one : ∀ x ∈ ins2, ∀ y ∈ ins2, x.1 = y.1 → x.2.1 = y.2.1 → x = y := by decide
def inOf (a b : Int) : Nat := ((ins2.find? fun x => decide (a = x.1) && decide (b = x.2.1)).map (·.2.2)).getD 31
theorem inOf_some {a b : Int} {x : Int × Int × Nat} (hx : x ∈ ins2) (ha : a = x.1) (hb : b = x.2.1) : inOf a b = x.2.2 := by
  unfold inOf
  cases hf : ins2.find? fun x => decide (a = x.1) && decide (b = x.2.1) with
  | none =>
    have := List.find?_eq_none.1 hf x hx
    simp [ha, hb] at this
  | some y =>
    have h1 := List.find?_some hf
    have h2 := List.mem_of_find?_eq_some hf
    simp only [Bool.and_eq_true, decide_eq_true_eq] at h1
    rw [ins2_one x hx y h2 (ha.symm.trans h1.1) (hb.symm.trans h1.2)]
    rfl
theorem inOf_none {a b : Int} (h : ∀ x ∈ ins2, ¬(a = x.1 ∧ b = x.2.1)) : inOf a b = 31 := by
  unfold inOf
  rw [List.find?_eq_none.2 fun x hx => by simpa using fun h1 h2 => h x hx ⟨h1, h2⟩]
  rfl
/-- A broker's command, as the client is told it. -/
def inL (l : LeaseL) (c : Cm) : LeaseL × List Cm × Int :=
  if (decide (cRight c ≠ 0) || !mayL c.1 2) = true then (l, [], 16)
  else if (actI (inOf c.1.1 c.1.2.1) l c).2.2.2 ≠ 0 then (l, [], (actI (inOf c.1.1 c.1.2.1) l c).2.2.2)
  else ((actI (inOf c.1.1 c.1.2.1) l c).1, (actI (inOf c.1.1 c.1.2.1) l c).2.2.1, 0)
theorem inR_free (l : LeaseL) (o : List Cm) (e : Int) : (V.tup [.agg (leaseC l), outV o, .int .i64 e]).Free := .tup _ (by
  intro v hv
  simp only [List.mem_cons, List.not_mem_nil, or_false] at hv
  rcases hv with rfl | rfl | rfl
  · exact .agg _ (leaseC_free' _)
  · exact .dat _ _ _ (by simp)
  · exact .im _)
theorem inZ_vw (n : Nat) (l : LeaseL) (e : Int) : VW n (.tup [.agg (leaseC l), .dat 0 [] .tight, .int .i64 e]) (.tup [.agg (leaseC l), outV [], .int .i64 e]) :=
  VW.tupL (.cons (.free (.agg _ (leaseC_free' _))) (.cons (outV_nil _) (.cons (.im _) .nil)))
set_option maxHeartbeats 4000000 in
theorem in_ct (G : Nat → Option (List V)) (hG1 : G 1 = some wV) (l : LeaseL) (c : Cm) (h : InOk l c) (H : Heap) :
    Call2 Go.Proofs.Tryz.prog G 15 [.agg (leaseC l), .agg (ccells c)] H fun r H' => H' = H ∧ r = .tup [.agg (leaseC (inL l c).1), outV (inL l c).2.1, .int .i64 (inL l c).2.2] := by
  refine Call2.free (fun x hx => by
    simp only [List.mem_cons, List.not_mem_nil, or_false] at hx
    rcases hx with rfl | rfl
    · exact .agg _ (leaseC_free' _)
    · exact ccells_free _) ?_ H
  refine Call2.weakR ?_
  have hcr := cright_ct G hG1 c h.cs
  have hmay := may_ct G c.1 2 (.inr rfl)
  unfold inL
  generalize cRight c = e0 at hcr ⊢
  generalize mayL c.1 2 = my at hmay ⊢
  refine stCall2 Go.Proofs.Tryz.func15 rfl (by decide) ?_
  conv => whnf
  refine Call2.mono (hcr _) fun r0 H0 h => ?_
  obtain ⟨h1, h2⟩ := h
  rw [h1, h2]
  clear h1 h2 r0 H0
  conv => whnf
  by_cases he : e0 = 0
  · refine br_f (show decide (e0 ≠ 0) = false from decide_eq_false (by simpa using he)) ?_
    rw [show decide (e0 ≠ 0) = false from decide_eq_false (by simpa using he)]
    conv => whnf
    refine Call2.mono (hmay _) fun r0 H0 h => ?_
    obtain ⟨h1, h2⟩ := h
    rw [h1, h2]
    clear h1 h2 r0 H0
    conv => whnf
    cases my
    · conv => whnf
      rw [if_pos (show (false || !false) = true from rfl)]
      exact ⟨_, inZ_vw _ l 16, inR_free l [] 16, rfl⟩
    · rw [if_neg (by simp)]
      conv => whnf
      refine Call2.mono (ins_ct G _) fun r0 H0 hh => ?_
      obtain ⟨es, hp, h1, h2⟩ := hh
      rw [h1, h2]
      clear h1 h2 r0 H0
      conv => whnf
      refine Call2.mono (wplace_ct G _ 3 l c (.dat 0 [] .tight) 0 rfl) fun r0 H0 hh => ?_
      obtain ⟨h1, h2⟩ := hh
      rw [h1, h2]
      clear h1 h2 r0 H0
      conv => whnf
      refine find_any hp (fun x hx => ?_) (fun hno => ?_)
      · rw [insE_eq] at hx
        obtain ⟨y, hy, rfl⟩ := List.mem_map.1 hx
        refine ⟨decide (c.1.1 = y.1) && decide (c.1.2.1 = y.2.1), rfl, fun hb nn => ?_⟩
        simp only [Bool.and_eq_true, decide_eq_true_eq] at hb
        rw [inOf_some hy hb.1 hb.2]
        have hg := ins2_rng y hy
        have hact := fun H hH hk => acti_ct G H hH 3 l c (by decide) hk h y.2.2 (.inr hg)
        generalize y.2.2 = g at hact ⊢
        generalize actI g l c = u at hact ⊢
        obtain ⟨ul, uc, uo, ue⟩ := u
        conv => whnf
        refine Call2.mono (hact _ rfl rfl) fun r0 H0 hh => ?_
        obtain ⟨h1, h2⟩ := hh
        rw [h1, h2]
        clear h1 h2 r0 H0
        conv => whnf
        simp only
        by_cases hu : ue ≠ 0
        · refine br_t (show decide (ue ≠ 0) = true from decide_eq_true hu) ?_
          rw [if_pos hu]
          conv => whnf
          intro hw1
          refine wpc_drawG2 [5] [] [(4, 5)] (by rfl) (by decide) (by decide) hw1 ?_
          conv => whnf
          exact ⟨_, inZ_vw _ l ue, inR_free l [] ue, rfl⟩
        · refine br_f (show decide (ue ≠ 0) = false from decide_eq_false hu) ?_
          rw [if_neg hu]
          conv => whnf
          intro hw1
          refine wpc_drawG2 [8] [] [(7, 8)] (by rfl) (by decide) (by decide) hw1 ?_
          conv => whnf
          exact ⟨_, .free (inR_free ul uo 0), inR_free ul uo 0, rfl⟩
      · rw [inOf_none fun x hx hh => by
          have h1 := hno (k2 x.1 x.2.1, fnv x.2.2) (by rw [insE_eq]; exact List.mem_map.2 ⟨x, hx, rfl⟩)
          have h2 : keyEq (k2 c.1.1 c.1.2.1) (k2 x.1 x.2.1) = some (decide (c.1.1 = x.1) && decide (c.1.2.1 = x.2.1)) := rfl
          have h3 := h2.symm.trans h1
          rw [hh.1, hh.2] at h3
          simp at h3]
        have hact := fun H hH hk => acti_ct G H hH 3 l c (by decide) hk h 31 (.inl rfl)
        generalize actI 31 l c = u at hact ⊢
        obtain ⟨ul, uc, uo, ue⟩ := u
        conv => whnf
        refine Call2.mono (hact _ rfl rfl) fun r0 H0 hh => ?_
        obtain ⟨h1, h2⟩ := hh
        rw [h1, h2]
        clear h1 h2 r0 H0
        conv => whnf
        simp only
        by_cases hu : ue ≠ 0
        · refine br_t (show decide (ue ≠ 0) = true from decide_eq_true hu) ?_
          rw [if_pos hu]
          conv => whnf
          intro hw1
          refine wpc_drawG2 [5] [] [(4, 5)] (by rfl) (by decide) (by decide) hw1 ?_
          conv => whnf
          exact ⟨_, inZ_vw _ l ue, inR_free l [] ue, rfl⟩
        · refine br_f (show decide (ue ≠ 0) = false from decide_eq_false hu) ?_
          rw [if_neg hu]
          conv => whnf
          intro hw1
          refine wpc_drawG2 [8] [] [(7, 8)] (by rfl) (by decide) (by decide) hw1 ?_
          conv => whnf
          exact ⟨_, .free (inR_free ul uo 0), inR_free ul uo 0, rfl⟩
  · refine br_t (show decide (e0 ≠ 0) = true from decide_eq_true he) ?_
    rw [show decide (e0 ≠ 0) = true from decide_eq_true he, if_pos (by simp)]
    conv => whnf
    exact ⟨_, inZ_vw _ l 16, inR_free l [] 16, rfl⟩
end Go.Abs.Sig

/-! LQ7 -/
namespace Go.Abs.Sig
open Go.RowKit Go.Abs
set_option linter.unusedSimpArgs false
set_option linter.unusedVariables false
set_option maxRecDepth 8000
attribute [local irreducible] StCall StYield WPc Weak IterOf Lp2

/-! plain facts: the numbers that a client is given -/
theorem inL_zero {l : LeaseL} {c : Cm} (h : (inL l c).2.2 = 0) : cRight c = 0 ∧ mayL c.1 2 = true ∧ (actI (inOf c.1.1 c.1.2.1) l c).2.2.2 = 0 ∧ inL l c = ((actI (inOf c.1.1 c.1.2.1) l c).1, (actI (inOf c.1.1 c.1.2.1) l c).2.2.1, 0) := by
  unfold inL at h ⊢
  by_cases h1 : (decide (cRight c ≠ 0) || !mayL c.1 2) = true
  · rw [if_pos h1] at h
    simp at h
  rw [if_neg h1] at h ⊢
  simp only [Bool.or_eq_true, decide_eq_true_eq, Bool.not_eq_true', not_or, Decidable.not_not, Bool.not_eq_false] at h1
  by_cases h2 : (actI (inOf c.1.1 c.1.2.1) l c).2.2.2 ≠ 0
  · rw [if_pos h2] at h
    exact absurd h h2
  rw [if_neg h2]
  exact ⟨h1.1, h1.2, by simpa using h2, rfl⟩
theorem inL_err {l : LeaseL} {c : Cm} (h : (inL l c).2.2 ≠ 0) : (inL l c).1 = l ∧ (inL l c).2.1 = [] := by
  unfold inL at h ⊢
  split
  · exact ⟨rfl, rfl⟩
  split
  · exact ⟨rfl, rfl⟩
  · rename_i h1 h2
    rw [if_neg h1, if_neg h2] at h
    exact absurd rfl h
/-- What is delivered has the next number. -/
theorem delW_zero {l : LeaseL} {up : Int} {free : Bool} (h : (delW l up free).2.2 = 0) :
    (delW l up free).2.1 = l.t.nx ∧ (delW l up free).1.nx = IntKind.u64.wrap (l.t.nx + 1) ∧ l.t.l.length ≤ (delW l up free).1.l.length ∧ (delW l up free).1.l.length ≤ l.t.l.length + 1 := by
  have hd : (delL l.t up l.most).2.2 = 0 → delL l.t up l.most = (⟨IntKind.u64.wrap (l.t.nx + 1), up, l.t.l ++ [(l.t.nx, up)]⟩, l.t.nx, 0) := by
    intro h
    unfold delL at h ⊢
    split at h
    · simp at h
    split at h
    · simp at h
    split at h
    · simp at h
    · rename_i h1 h2 h3
      rw [if_neg h1, if_neg h2, if_neg h3]
  unfold delW at h ⊢
  by_cases h1 : (delL l.t up l.most).2.2 = 0 ∧ free = true
  · rw [if_pos h1] at h ⊢
    rw [hd h1.1] at h ⊢
    simp only at h ⊢
    unfold setL setR at h ⊢
    simp only at h ⊢
    split at h
    · refine ⟨trivial, rfl, ?_, ?_⟩
      · simp; omega
      · simp; omega
    · simp at h
  · rw [if_neg h1] at h ⊢
    rw [hd h]
    simp
theorem wNamed_ok {l : LeaseL} {c : Cm} (h : (wNamed l c 0).2.1 = 0) : (wNamed l c 0).2.2.2 = true := by
  unfold wNamed at h ⊢
  split
  · rename_i hx
    rw [hx] at h
    simp at h
  · rfl
theorem inOf_60 : inOf 60 60 = 63 := by decide
theorem inOf_71 : inOf 60 71 = 64 := by decide
theorem deliver_law {l : LeaseL} {c : Cm} (h : (inL l c).2.2 = 0) (h1 : c.1.1 = 60) (h2 : c.1.2.1 = 60) :
    ∃ m1 m2 v0 s r hd bd, (inL l c).2.1 = [((m1, m2, v0 :: (l.t.nx, s) :: r), hd, bd)] ∧ (inL l c).1.t.nx = IntKind.u64.wrap (l.t.nx + 1) ∧ l.t.l.length ≤ (inL l c).1.t.l.length ∧ (inL l c).1.t.l.length ≤ l.t.l.length + 1 := by
  obtain ⟨hr, hm, ha, he⟩ := inL_zero h
  rw [he]
  rw [h1, h2, inOf_60] at ha ⊢
  have e : actI 63 l c = wDeliv l c := rfl
  rw [e] at ha ⊢
  unfold wDeliv at ha ⊢
  have hal := wNamed_args l c 0
  have hok := @wNamed_ok l c
  have hlen := cRight_args hr
  rw [h1, h2] at hlen
  generalize wNamed l c 0 = u at ha hal hok ⊢
  obtain ⟨c1, e1, x, is⟩ := u
  simp only at hal hok
  cases is
  · have := hok ha
    cases this
  simp only at ha ⊢
  have hz := delW_zero ha
  have hargs : 2 ≤ c1.1.2.2.length := by
    rw [hal, hlen]
    decide
  obtain ⟨⟨m1, m2, args⟩, hd, bd⟩ := c1
  simp only at hargs hz ⊢
  match args, hargs with
  | v0 :: v1 :: r, _ =>
    refine ⟨m1, m2, v0, [], r, hd, bd, ?_, hz.2.1, hz.2.2.1, hz.2.2.2⟩
    rw [hz.1]
    rw [show (1 : Int) = ((1 : Nat) : Int) from rfl, withC_args (by simp)]
    rfl
theorem got_law {l : LeaseL} {c : Cm} (h : (inL l c).2.2 = 0) (h1 : c.1.1 = 60) (h2 : c.1.2.1 = 71) :
    ∃ m1 m2 s r hd bd, (inL l c).2.1 = [((m1, m2, (l.t.nx, s) :: r), hd, bd)] ∧ (inL l c).1.t.nx = IntKind.u64.wrap (l.t.nx + 1) ∧ l.t.l.length ≤ (inL l c).1.t.l.length ∧ (inL l c).1.t.l.length ≤ l.t.l.length + 1 := by
  obtain ⟨hr, hm, ha, he⟩ := inL_zero h
  rw [he]
  rw [h1, h2, inOf_71] at ha ⊢
  have e : actI 64 l c = wGot l c := rfl
  rw [e] at ha ⊢
  unfold wGot at ha ⊢
  have hlen := cRight_args hr
  rw [h1, h2] at hlen
  have hargs : 1 ≤ c.1.2.2.length := by
    rw [hlen]
    decide
  cases hg : l.gets with
  | nil => rw [hg] at ha; simp at ha
  | cons f g =>
    rw [hg] at ha
    simp only at ha ⊢
    have hz := delW_zero ha
    obtain ⟨⟨m1, m2, args⟩, hd, bd⟩ := c
    simp only at hargs hz ⊢
    match args, hargs with
    | v0 :: r, _ =>
      refine ⟨m1, m2, [], r, hd, bd, ?_, hz.2.1, hz.2.2.1, hz.2.2.2⟩
      rw [hz.1]
      rw [show (0 : Int) = ((0 : Nat) : Int) from rfl, withC_args (by simp)]
      rfl
theorem ins2_num : ∀ x ∈ ins2, ¬(x.1 = 60 ∧ (x.2.1 = 60 ∨ x.2.1 = 71)) → x.2.2 ≠ 63 ∧ x.2.2 ≠ 64 := by decide
theorem still_law {l : LeaseL} {c : Cm} (h : (inL l c).2.2 ≠ 0 ∨ ¬(c.1.1 = 60 ∧ (c.1.2.1 = 60 ∨ c.1.2.1 = 71))) : (inL l c).1.t.nx = l.t.nx := by
  by_cases he : (inL l c).2.2 ≠ 0
  · rw [(inL_err he).1]
  · have hn := h.resolve_left he
    obtain ⟨_, _, _, e⟩ := inL_zero (by simpa using he)
    rw [e]
    have hg : inOf c.1.1 c.1.2.1 ≠ 63 ∧ inOf c.1.1 c.1.2.1 ≠ 64 := by
      by_cases hx : ∃ x ∈ ins2, c.1.1 = x.1 ∧ c.1.2.1 = x.2.1
      · obtain ⟨x, hx, a, b⟩ := hx
        rw [inOf_some hx a b]
        rw [a, b] at hn
        exact ins2_num x hx hn
      · rw [inOf_none fun x hx2 hh => hx ⟨x, hx2, hh⟩]
        decide
    generalize inOf c.1.1 c.1.2.1 = g at hg ⊢
    unfold actI
    split
    · rfl
    split
    · unfold wCancelled
      split <;> rfl
    split
    · exact absurd ‹_› hg.1
    split
    · exact absurd ‹_› hg.2
    split
    · show (wFirst l 0).1.t.nx = _
      unfold wFirst
      split <;> rfl
    split
    · unfold wConfirmed
      split
      split
      split <;> rfl
    · rfl
end Go.Abs.Sig

/-! LQ8 -/
namespace Go.Abs.Sig
open Go.RowKit Go.Abs
set_option linter.unusedSimpArgs false
set_option linter.unusedVariables false
set_option maxRecDepth 8000
attribute [local irreducible] StCall StYield WPc Weak IterOf Lp2

set_option maxHeartbeats 4000000 in
theorem leaseNumbers_ct (G : Nat → Option (List V)) (hG0 : G 0 = some powV) (hG1 : G 1 = some wV) (l : LeaseL) (c : Cm) (hs : LeaseS l) (hc : CmS c) (hcl : c.1.2.2.length * 24 ≤ maxBytes) (H : Heap) :
    Call2 Go.Proofs.Tryz.prog G 9 [.agg (leaseC l), .agg (ccells c)] H fun r H' => H' = H ∧ r = .bool true := by
  refine Call2.free (fun x hx => by
    simp only [List.mem_cons, List.not_mem_nil, or_false] at hx
    rcases hx with rfl | rfl
    · exact .agg _ (leaseC_free' _)
    · exact ccells_free _) ?_ H
  have hsh := shown18_ct G hG0 hG1
  have hlr := lright_ct G l hs
  have hin := fun h => in_ct G hG1 l c (inOk_of hs h hc hcl)
  have h1 := @deliver_law l c
  have h2 := @got_law l c
  have h3 := @still_law l c
  generalize inL l c = u at hin h1 h2 h3
  obtain ⟨ul, uo, ue⟩ := u
  generalize lRight l = rt at hlr hin
  simp only at h1 h2 h3
  refine stCall2 Go.Proofs.Tryz.func9 rfl (by decide) ?_
  conv => whnf
  refine Call2.mono (hsh _) fun r0 H0 h => ?_
  obtain ⟨h1, h2⟩ := h
  rw [h1, h2]
  clear h1 h2 r0 H0
  conv => whnf
  refine Call2.mono (hlr _) fun r0 H0 h => ?_
  obtain ⟨h1, h2⟩ := h
  rw [h1, h2]
  clear h1 h2 r0 H0
  conv => whnf
  cases rt
  · conv => whnf
    exact ⟨.im _, rfl⟩
  conv => whnf
  refine Call2.mono (hin rfl _) fun r0 H0 h => ?_
  obtain ⟨h1, h2⟩ := h
  rw [h1, h2]
  clear h1 h2 r0 H0
  conv => whnf
  by_cases h60 : c.1.1 = 60
  · refine br_t (show decide (c.1.1 = 60) = true from decide_eq_true h60) ?_
    conv => whnf
    by_cases hm60 : c.1.2.1 = 60
    · refine br_t (decide_eq_true hm60) ?_
      conv => whnf
      by_cases he : ue = 0
      · refine br_f (show decide (ue ≠ 0) = false from decide_eq_false (by simpa using he)) ?_
        conv => whnf
        obtain ⟨m1, m2, v0, s, r, hd, bd, rfl, a1, a2, a3⟩ := h1 he h60 hm60
        refine br_t (decide_eq_true hm60) ?_
        conv => whnf
        intro hw
        refine wpc_draw2 64 (by rfl) (by decide) (by kernel_rfl) hw ?_
        conv => whnf
        have hd2 : decide (1 < ((vals (v0 :: (l.t.nx, s) :: r)).length : Int)) = true := decide_eq_true (by simp [vals]; omega)
        refine br_t (show bsel true (decide (1 < ((vals (v0 :: (l.t.nx, s) :: r)).length : Int))) false = true by rw [hd2]; rfl) ?_
        conv => whnf
        refine br_t (show bsel true (decide (l.t.nx = l.t.nx)) false = true by rw [decide_eq_true rfl]; rfl) ?_
        conv => whnf
        refine br_t (show bsel true (decide (ul.t.nx = IntKind.u64.wrap (l.t.nx + 1))) false = true by rw [decide_eq_true a1]; rfl) ?_
        conv => whnf
        have hvl : (tagR l.t.l).length = l.t.l.length := by simp [tagR]
        have hvu : (tagR ul.t.l).length = ul.t.l.length := by simp [tagR]
        have hmb : maxBytes = 140737488355328 := rfl
        have htl := hs.tl
        have hd3 : decide (((tagR l.t.l).length : Int) ≤ ((tagR ul.t.l).length : Int)) = true := decide_eq_true (by rw [hvl, hvu]; omega)
        have hd4 : decide (((tagR ul.t.l).length : Int) ≤ IntKind.i64.wrap (((tagR l.t.l).length : Int) + 1)) = true := decide_eq_true (by rw [hvl, hvu, wrap_i64 (by omega) (by omega)]; omega)
        refine br_t (show bsel true (decide (((tagR l.t.l).length : Int) ≤ ((tagR ul.t.l).length : Int))) false = true by rw [hd3]; rfl) ?_
        conv => whnf
        refine ⟨.im _, ?_⟩
        show V.bool (bsel true (decide (((tagR ul.t.l).length : Int) ≤ IntKind.i64.wrap (((tagR l.t.l).length : Int) + 1))) false) = .bool true
        rw [hd4]
        rfl
      · refine br_t (show decide (ue ≠ 0) = true from decide_eq_true he) ?_
        conv => whnf
        refine ⟨.im _, ?_⟩
        show V.bool (bsel true (decide (ul.t.nx = l.t.nx)) false) = .bool true
        rw [decide_eq_true (h3 (.inl he))]
        rfl
    · refine br_f (decide_eq_false hm60) ?_
      conv => whnf
      by_cases hm71 : c.1.2.1 = 71
      · rw [show decide (c.1.2.1 = 71) = true from decide_eq_true hm71]
        conv => whnf
        by_cases he : ue = 0
        · refine br_f (show decide (ue ≠ 0) = false from decide_eq_false (by simpa using he)) ?_
          conv => whnf
          obtain ⟨m1, m2, s, r, hd, bd, rfl, a1, a2, a3⟩ := h2 he h60 hm71
          refine br_f (decide_eq_false hm60) ?_
          conv => whnf
          intro hw
          refine wpc_draw2 64 (by rfl) (by decide) (by kernel_rfl) hw ?_
          conv => whnf
          have hd2 : decide (0 < ((vals ((l.t.nx, s) :: r)).length : Int)) = true := decide_eq_true (by rw [show (vals ((l.t.nx, s) :: r)).length = r.length + 1 by simp [vals]]; omega)
          refine br_t (show bsel true (decide (0 < ((vals ((l.t.nx, s) :: r)).length : Int))) false = true by rw [hd2]; rfl) ?_
          conv => whnf
          refine br_t (show bsel true (decide (l.t.nx = l.t.nx)) false = true by rw [decide_eq_true rfl]; rfl) ?_
          conv => whnf
          refine br_t (show bsel true (decide (ul.t.nx = IntKind.u64.wrap (l.t.nx + 1))) false = true by rw [decide_eq_true a1]; rfl) ?_
          conv => whnf
          have hvl : (tagR l.t.l).length = l.t.l.length := by simp [tagR]
          have hvu : (tagR ul.t.l).length = ul.t.l.length := by simp [tagR]
          have hmb : maxBytes = 140737488355328 := rfl
          have htl := hs.tl
          have hd3 : decide (((tagR l.t.l).length : Int) ≤ ((tagR ul.t.l).length : Int)) = true := decide_eq_true (by rw [hvl, hvu]; omega)
          have hd4 : decide (((tagR ul.t.l).length : Int) ≤ IntKind.i64.wrap (((tagR l.t.l).length : Int) + 1)) = true := decide_eq_true (by rw [hvl, hvu, wrap_i64 (by omega) (by omega)]; omega)
          refine br_t (show bsel true (decide (((tagR l.t.l).length : Int) ≤ ((tagR ul.t.l).length : Int))) false = true by rw [hd3]; rfl) ?_
          conv => whnf
          refine ⟨.im _, ?_⟩
          show V.bool (bsel true (decide (((tagR ul.t.l).length : Int) ≤ IntKind.i64.wrap (((tagR l.t.l).length : Int) + 1))) false) = .bool true
          rw [hd4]
          rfl
        · refine br_t (show decide (ue ≠ 0) = true from decide_eq_true he) ?_
          conv => whnf
          refine ⟨.im _, ?_⟩
          show V.bool (bsel true (decide (ul.t.nx = l.t.nx)) false) = .bool true
          rw [decide_eq_true (h3 (.inl he))]
          rfl
      · rw [show decide (c.1.2.1 = 71) = false from decide_eq_false hm71]
        conv => whnf
        have hno : ¬(c.1.1 = 60 ∧ (c.1.2.1 = 60 ∨ c.1.2.1 = 71)) := fun h => h.2.elim hm60 hm71
        by_cases he : ue = 0
        · refine br_f (show decide (ue ≠ 0) = false from decide_eq_false (by simpa using he)) ?_
          conv => whnf
          refine ⟨.im _, ?_⟩
          show V.bool (bsel true (decide (ul.t.nx = l.t.nx)) false) = .bool true
          rw [decide_eq_true (h3 (.inr hno))]
          rfl
        · refine br_t (show decide (ue ≠ 0) = true from decide_eq_true he) ?_
          conv => whnf
          refine ⟨.im _, ?_⟩
          show V.bool (bsel true (decide (ul.t.nx = l.t.nx)) false) = .bool true
          rw [decide_eq_true (h3 (.inl he))]
          rfl
  · refine br_f (show decide (c.1.1 = 60) = false from decide_eq_false h60) ?_
    conv => whnf
    have hno : ¬(c.1.1 = 60 ∧ (c.1.2.1 = 60 ∨ c.1.2.1 = 71)) := fun h => h60 h.1
    by_cases he : ue = 0
    · refine br_f (show decide (ue ≠ 0) = false from decide_eq_false (by simpa using he)) ?_
      conv => whnf
      refine ⟨.im _, ?_⟩
      show V.bool (bsel true (decide (ul.t.nx = l.t.nx)) false) = .bool true
      rw [decide_eq_true (h3 (.inr hno))]
      rfl
    · refine br_t (show decide (ue ≠ 0) = true from decide_eq_true he) ?_
      conv => whnf
      refine ⟨.im _, ?_⟩
      show V.bool (bsel true (decide (ul.t.nx = l.t.nx)) false) = .bool true
      rw [decide_eq_true (h3 (.inl he))]
      rfl
end Go.Abs.Sig

/-! LG1 -/
namespace Go.Abs.Sig
open Go.RowKit Go.Abs
set_option linter.unusedSimpArgs false
set_option linter.unusedVariables false
set_option maxRecDepth 8000
attribute [local irreducible] StCall StYield WPc Weak IterOf Lp2

/-! chapter 17: from the broker's name to the client's -/
end Go.Abs.Sig

/-! LG2 -/
namespace Go.Abs.Sig
open Go.RowKit Go.Abs
set_option linter.unusedSimpArgs false
set_option linter.unusedVariables false
set_option maxRecDepth 8000
attribute [local irreducible] StCall StYield WPc Weak IterOf Lp2

/-! chapter 15: a delivery by its number -/
end Go.Abs.Sig

/-! LG3 -/
namespace Go.Abs.Sig
open Go.RowKit Go.Abs
set_option linter.unusedSimpArgs false
set_option linter.unusedVariables false
set_option maxRecDepth 8000
attribute [local irreducible] StCall StYield WPc Weak IterOf Lp2

def nmsS (l l' : List Int) (j : Nat) : S2 := headS 26 ([.dat 1 (numR l) .no, .dat 1 (numR l') .no, .bad, .bad, .bad, .int .i64 (j : Int)] ++ List.replicate 20 .bad) [] [] none
theorem nums_ct (G : Nat → Option (List V)) (l l' : List Int) (hla : l.length ≤ maxLen) (H : Heap) : Call2 Go.Proofs.Tryz.prog G 71 [.dat 1 (numR l) .no, .dat 1 (numR l') .no] H fun r H' => H' = H ∧ r = .bool (decide (l = l')) := by
  refine Call2.free (fun x hx => by
    simp only [List.mem_cons, List.not_mem_nil, or_false] at hx
    rcases hx with rfl | rfl
    · exact .dat _ _ _ (by simp)
    · exact .dat _ _ _ (by simp)) ?_ H
  have hvl : (numR l).length = l.length := by simp [numR]
  have hvl' : (numR l').length = l'.length := by simp [numR]
  have hla' : l.length ≤ 9223372036854775807 := hla
  refine stCall2 Go.Proofs.Tryz.func71 rfl (by decide) ?_
  conv => whnf
  rw [hvl, hvl']
  by_cases hlen : l.length = l'.length
  rotate_left
  · refine br_t (show decide (((l.length : Nat) : Int) ≠ ((l'.length : Nat) : Int)) = true from decide_eq_true (by omega)) ?_
    conv => whnf
    rw [decide_eq_false (fun h => hlen (by rw [h]))]
    exact ⟨.im _, rfl⟩
  refine br_f (show decide (((l.length : Nat) : Int) ≠ ((l'.length : Nat) : Int)) = false from decide_eq_false (by omega)) ?_
  conv => whnf
  intro hw
  refine wpc_loop2 (fun n1 s1 => ∃ j : Nat, j ≤ l.length ∧ n1 = l.length - j ∧ s1 = nmsS l l' j ∧ l.take j = l'.take j) l.length (nmsS l l' 0) ?_ ⟨0, by omega, rfl, rfl, rfl⟩ ?_ ?_
  · exact weak2 hw rfl ⟨.dat _ _ _, .dat _ _ _, .im _, trivial⟩ (.nil _) (fun id hid => by cases hid) rfl (fun id hid => by cases hid)
  · rintro n1 s1 ⟨j, _, _, rfl, _⟩
    exact ⟨⟨Nat.le_refl 26, fun x hx => by cases hx⟩, rfl, Nat.le_refl _, rfl⟩
  rintro n1 s1 ⟨j, hj, rfl, rfl, hinv⟩
  by_cases hjl : j < l.length
  · have hd0 : (true && true && decide ((0 : Int) ≤ (j : Int))) = true := by simp
    have hwj : IntKind.i64.wrap ((j : Int) + 1) = ((j + 1 : Nat) : Int) := by rw [wrap_i64 (by omega) (by omega)]; rfl
    have hg1 : (numR l)[Int.toNat (j : Int)]? = some [.int .u64 l[j]] := rowGet _ l j hjl
    have hg2 : (numR l')[Int.toNat (j : Int)]? = some [.int .u64 (l'[j]'(by omega))] := rowGet _ l' j (by omega)
    have ht1 : l.take (j + 1) = l.take j ++ [l[j]] := by rw [List.take_succ_eq_append_getElem hjl]
    have ht2 : l'.take (j + 1) = l'.take j ++ [l'[j]'(by omega)] := by rw [List.take_succ_eq_append_getElem (by omega)]
    conv => whnf
    refine br_t (decide_eq_true (by rw [hvl]; omega)) ?_
    conv => whnf
    intro hw2
    refine wpc_draw2 9 (by rfl) (by decide) (by decide) hw2 ?_
    conv => whnf
    refine grd_intro hd0 (optK_intro hg1 ?_)
    conv => whnf
    refine grd_intro hd0 (optK_intro hg2 ?_)
    conv => whnf
    by_cases hs : l[j] = l'[j]'(by omega)
    · refine br_f (decide_eq_false (fun h => h hs)) ?_
      conv => whnf
      intro hw3
      refine ⟨l.length - (j + 1), nmsS l l' (j + 1), by omega, ?_, j + 1, by omega, rfl, rfl, ?_⟩
      · exact weak2 hw3 rfl ⟨.dat _ _ _, .dat _ _ _, .int hwj, trivial⟩ (.nil _) (fun id hid => by cases hid) rfl (fun id hid => by cases hid)
      · rw [ht1, ht2, hinv, hs]
    · refine br_t (decide_eq_true hs) ?_
      conv => whnf
      rw [decide_eq_false (show ¬l = l' from fun h => hs (by subst h; rfl))]
      exact ⟨.im _, rfl⟩
  · conv => whnf
    refine br_f (decide_eq_false (by rw [hvl]; omega)) ?_
    conv => whnf
    rw [show j = l.length by omega, List.take_length, hlen, List.take_length] at hinv
    rw [decide_eq_true hinv]
    exact ⟨.im _, rfl⟩
end Go.Abs.Sig

/-! LG4 -/
namespace Go.Abs.Sig
open Go.RowKit Go.Abs
set_option linter.unusedSimpArgs false
set_option linter.unusedVariables false
set_option maxRecDepth 8000
attribute [local irreducible] StCall StYield WPc Weak IterOf Lp2

def sEq (a b : SeqL) : Bool := decide (a.l = b.l) && decide (a.on = b.on) && decide (a.nx = b.nx) && decide (a.off = b.off)
theorem rssame_ct (G : Nat → Option (List V)) (a b : SeqL) (hla : a.l.length ≤ maxLen) (H : Heap) : Call2 Go.Proofs.Tryz.prog G 40 [.agg (seqC a), .agg (seqC b)] H fun r H' => H' = H ∧ r = .bool (sEq a b) := by
  refine Call2.free (fun x hx => by
    simp only [List.mem_cons, List.not_mem_nil, or_false] at hx
    rcases hx with rfl | rfl
    · exact .agg _ (seqC_free' _)
    · exact .agg _ (seqC_free' _)) ?_ H
  have hn := nums_ct G a.l b.l hla
  unfold sEq
  generalize decide (a.l = b.l) = q at hn ⊢
  obtain ⟨on, nx, off, l⟩ := a
  obtain ⟨on', nx', off', l'⟩ := b
  refine stCall2 Go.Proofs.Tryz.func40 rfl (by decide) ?_
  conv => whnf
  refine Call2.mono (hn _) fun r0 H0 h => ?_
  obtain ⟨h1, h2⟩ := h
  rw [h1, h2]
  clear h1 h2 r0 H0
  conv => whnf
  cases q
  · conv => whnf
    exact ⟨.im _, rfl⟩
  conv => whnf
  refine br_intro (fun c1 => ?_) (fun c1 => ?_)
  rotate_left
  · conv => whnf
    rw [show decide (on = on') = false from c1]
    exact ⟨.im _, rfl⟩
  rw [show decide (on = on') = true from c1]
  conv => whnf
  refine br_intro (fun c2 => ?_) (fun c2 => ?_)
  rotate_left
  · conv => whnf
    rw [show decide (nx = nx') = false from c2]
    exact ⟨.im _, rfl⟩
  rw [show decide (nx = nx') = true from c2]
  conv => whnf
  exact ⟨.im _, rfl⟩
end Go.Abs.Sig

/-! LS1 -/
namespace Go.Abs.Sig
open Go.RowKit Go.Abs
set_option linter.unusedSimpArgs false
set_option linter.unusedVariables false
set_option maxRecDepth 8000
attribute [local irreducible] StCall StYield WPc Weak IterOf Lp2

/-! what is the same as itself -/
theorem eqT48 : (!Go.Program.eqGuardType Go.Proofs.Tryz.prog (Go.Program.depth Go.Proofs.Tryz.prog) 48 && aggT Go.Proofs.Tryz.prog 48) = true := by kernel_rfl
theorem flat48 : flatEq Go.Proofs.Tryz.prog 50 48 = some [.i, .i] := by kernel_rfl
theorem eq48 (x : Int × Int) : cellsEq [.i, .i] (tgcells x) (tgcells x) = some true := by
  show some (decide (x.1 = x.1) && (decide (x.2 = x.2) && true)) = some true
  simp
theorem eqT85 : (!Go.Program.eqGuardType Go.Proofs.Tryz.prog (Go.Program.depth Go.Proofs.Tryz.prog) 85 && aggT Go.Proofs.Tryz.prog 85) = true := by kernel_rfl
theorem flat85 : flatEq Go.Proofs.Tryz.prog 50 85 = some [.s, .s, .b] := by kernel_rfl
theorem eq85 (x : Nm) : cellsEq [.s, .s, .b] (nmcells x) (nmcells x) = some true := by
  show some (decide (x.1 = x.1) && (decide (x.2.1 = x.2.1) && ((x.2.2 == x.2.2) && true))) = some true
  simp
def tsS (t : TagsL) (j : Nat) : S2 := headS 45 ([.bad, .bad, .ptr 0 0, .ptr 1 0, .bad, .int .i64 (j : Int)] ++ List.replicate 39 .bad) [some (.cells 25 (tagsC t)), some (.cells 25 (tagsC t))] [] none
theorem rtsame_ct (G : Nat → Option (List V)) (t : TagsL) (hl : t.l.length ≤ maxBytes) (H : Heap) : Call2 Go.Proofs.Tryz.prog G 39 [.agg (tagsC t), .agg (tagsC t)] H fun r H' => H' = H ∧ r = .bool true := by
  refine Call2.free (fun x hx => by
    simp only [List.mem_cons, List.not_mem_nil, or_false] at hx
    rcases hx with rfl | rfl
    · exact .agg _ (tagsC_free' _)
    · exact .agg _ (tagsC_free' _)) ?_ H
  have hmb : maxBytes = 140737488355328 := rfl
  obtain ⟨nx, la, l⟩ := t
  have hvl : (tagR l).length = l.length := by simp [tagR]
  simp only at hl
  refine stCall2 Go.Proofs.Tryz.func39 rfl (by decide) ?_
  conv => whnf
  refine br_f (show decide (nx ≠ nx) = false by simp) ?_
  conv => whnf
  refine br_f (show bsel false true (decide (la ≠ la)) = false by simp [bsel]) ?_
  conv => whnf
  refine br_f (show bsel false true (decide (((tagR l).length : Int) ≠ ((tagR l).length : Int))) = false by simp [bsel]) ?_
  conv => whnf
  intro hw
  refine wpc_loop2 (fun n1 s1 => ∃ j : Nat, j ≤ l.length ∧ n1 = l.length - j ∧ s1 = tsS ⟨nx, la, l⟩ j) l.length (tsS ⟨nx, la, l⟩ 0) ?_ ⟨0, by omega, rfl, rfl⟩ ?_ ?_
  · exact weak2 hw rfl ⟨.ptr 0 0 (of_decide_eq_true rfl), .ptr 1 0 (of_decide_eq_true rfl), .im _, trivial⟩ (.cons (.free (tagsC_free' _)) (.cons (.free (tagsC_free' _)) (.nil _))) (fun id hid => by cases hid) rfl (fun id hid => by cases hid)
  · rintro n1 s1 ⟨j, _, _, rfl⟩
    exact ⟨⟨Nat.le_refl 45, fun x hx => by cases hx⟩, rfl, Nat.le_refl _, rfl⟩
  rintro n1 s1 ⟨j, hj, rfl, rfl⟩
  by_cases hjl : j < l.length
  · have hd0 : (true && true && decide ((0 : Int) ≤ (j : Int))) = true := by simp
    have hg1 : (tagR l)[Int.toNat (j : Int)]? = some (tgcells l[j]) := rowGet _ l j hjl
    have hwj : IntKind.i64.wrap ((j : Int) + 1) = ((j + 1 : Nat) : Int) := by rw [wrap_i64 (by omega) (by omega)]; rfl
    conv => whnf
    refine br_t (decide_eq_true (by rw [hvl]; omega)) ?_
    conv => whnf
    intro hw2
    refine wpc_draw2 11 (by rfl) (by decide) (by decide) hw2 ?_
    conv => whnf
    refine grd_intro hd0 (optK_intro hg1 ?_)
    conv => whnf
    refine grd_intro hd0 (optK_intro hg1 ?_)
    conv => whnf
    refine EqT.neq (b := true) eqT48 flat48 (eq48 _) ?_
    conv => whnf
    intro hw3
    refine ⟨l.length - (j + 1), tsS ⟨nx, la, l⟩ (j + 1), by omega, ?_, j + 1, by omega, rfl, rfl⟩
    exact weak2 hw3 rfl ⟨.ptr 0 0 (of_decide_eq_true rfl), .ptr 1 0 (of_decide_eq_true rfl), .int hwj, trivial⟩ (.cons (.free (tagsC_free' _)) (.cons (.free (tagsC_free' _)) (.nil _))) (fun id hid => by cases hid) rfl (fun id hid => by cases hid)
  · conv => whnf
    refine br_f (decide_eq_false (by rw [hvl]; omega)) ?_
    conv => whnf
    exact ⟨.im _, rfl⟩
def nsS (t : NamesL) (j : Nat) : S2 := headS 45 ([.bad, .bad, .ptr 0 0, .ptr 1 0, .bad, .int .i64 (j : Int)] ++ List.replicate 39 .bad) [some (.cells 31 (namesC t)), some (.cells 31 (namesC t))] [] none
theorem rnsame_ct (G : Nat → Option (List V)) (t : NamesL) (hl : t.l.length ≤ maxBytes) (H : Heap) : Call2 Go.Proofs.Tryz.prog G 41 [.agg (namesC t), .agg (namesC t)] H fun r H' => H' = H ∧ r = .bool true := by
  refine Call2.free (fun x hx => by
    simp only [List.mem_cons, List.not_mem_nil, or_false] at hx
    rcases hx with rfl | rfl
    · exact .agg _ (namesC_free' _)
    · exact .agg _ (namesC_free' _)) ?_ H
  have hmb : maxBytes = 140737488355328 := rfl
  obtain ⟨who, made, l⟩ := t
  have hvl : (nmR l).length = l.length := by simp [nmR]
  simp only at hl
  refine stCall2 Go.Proofs.Tryz.func41 rfl (by decide) ?_
  conv => whnf
  refine br_f (show decide (who ≠ who) = false by simp) ?_
  conv => whnf
  refine br_f (show bsel false true (decide (made ≠ made)) = false by simp [bsel]) ?_
  conv => whnf
  refine br_f (show bsel false true (decide (((nmR l).length : Int) ≠ ((nmR l).length : Int))) = false by simp [bsel]) ?_
  conv => whnf
  intro hw
  refine wpc_loop2 (fun n1 s1 => ∃ j : Nat, j ≤ l.length ∧ n1 = l.length - j ∧ s1 = nsS ⟨who, made, l⟩ j) l.length (nsS ⟨who, made, l⟩ 0) ?_ ⟨0, by omega, rfl, rfl⟩ ?_ ?_
  · exact weak2 hw rfl ⟨.ptr 0 0 (of_decide_eq_true rfl), .ptr 1 0 (of_decide_eq_true rfl), .im _, trivial⟩ (.cons (.free (namesC_free' _)) (.cons (.free (namesC_free' _)) (.nil _))) (fun id hid => by cases hid) rfl (fun id hid => by cases hid)
  · rintro n1 s1 ⟨j, _, _, rfl⟩
    exact ⟨⟨Nat.le_refl 45, fun x hx => by cases hx⟩, rfl, Nat.le_refl _, rfl⟩
  rintro n1 s1 ⟨j, hj, rfl, rfl⟩
  by_cases hjl : j < l.length
  · have hd0 : (true && true && decide ((0 : Int) ≤ (j : Int))) = true := by simp
    have hg1 : (nmR l)[Int.toNat (j : Int)]? = some (nmcells l[j]) := rowGet _ l j hjl
    have hwj : IntKind.i64.wrap ((j : Int) + 1) = ((j + 1 : Nat) : Int) := by rw [wrap_i64 (by omega) (by omega)]; rfl
    conv => whnf
    refine br_t (decide_eq_true (by rw [hvl]; omega)) ?_
    conv => whnf
    intro hw2
    refine wpc_draw2 11 (by rfl) (by decide) (by decide) hw2 ?_
    conv => whnf
    refine grd_intro hd0 (optK_intro hg1 ?_)
    conv => whnf
    refine grd_intro hd0 (optK_intro hg1 ?_)
    conv => whnf
    refine EqT.neq (b := true) eqT85 flat85 (eq85 _) ?_
    conv => whnf
    intro hw3
    refine ⟨l.length - (j + 1), nsS ⟨who, made, l⟩ (j + 1), by omega, ?_, j + 1, by omega, rfl, rfl⟩
    exact weak2 hw3 rfl ⟨.ptr 0 0 (of_decide_eq_true rfl), .ptr 1 0 (of_decide_eq_true rfl), .int hwj, trivial⟩ (.cons (.free (namesC_free' _)) (.cons (.free (namesC_free' _)) (.nil _))) (fun id hid => by cases hid) rfl (fun id hid => by cases hid)
  · conv => whnf
    refine br_f (decide_eq_false (by rw [hvl]; omega)) ?_
    conv => whnf
    exact ⟨.im _, rfl⟩
end Go.Abs.Sig

/-! LS2 -/
namespace Go.Abs.Sig
open Go.RowKit Go.Abs
set_option linter.unusedSimpArgs false
set_option linter.unusedVariables false
set_option maxRecDepth 8000
attribute [local irreducible] StCall StYield WPc Weak IterOf Lp2

def lsS (l : LeaseL) (j : Nat) : S2 := headS 77 ([.bad, .bad, .ptr 0 0, .ptr 1 0, .bad, .int .i64 (j : Int)] ++ List.replicate 71 .bad) [some (.cells 34 (leaseC l)), some (.cells 34 (leaseC l))] [] none
theorem rlsame_ct (G : Nat → Option (List V)) (l : LeaseL) (hl : LeaseS l) (H : Heap) : Call2 Go.Proofs.Tryz.prog G 17 [.agg (leaseC l), .agg (leaseC l)] H fun r H' => H' = H ∧ r = .bool true := by
  refine Call2.free (fun x hx => by
    simp only [List.mem_cons, List.not_mem_nil, or_false] at hx
    rcases hx with rfl | rfl
    · exact .agg _ (leaseC_free' _)
    · exact .agg _ (leaseC_free' _)) ?_ H
  have hmb : maxBytes = 140737488355328 := rfl
  have hmx : maxLen = 9223372036854775807 := rfl
  have h1 := rtsame_ct G l.t (by have := hl.tl; omega)
  have h2 := rssame_ct G l.s l.s (by have := hl.sl; omega)
  have h3 := rnsame_ct G l.n (by have := hl.nl; omega)
  have hse : sEq l.s l.s = true := by unfold sEq; simp
  rw [hse] at h2
  have hg := hl.gl
  have hvl : (boolR l.gets).length = l.gets.length := by simp [boolR]
  refine stCall2 Go.Proofs.Tryz.func17 rfl (by decide) ?_
  conv => whnf
  refine br_f (show decide (l.who ≠ l.who) = false by simp) ?_
  conv => whnf
  refine br_f (show bsel false true (l.tx != l.tx) = false by simp [bsel]) ?_
  conv => whnf
  refine br_f (show bsel false true (decide (l.most ≠ l.most)) = false by simp [bsel]) ?_
  conv => whnf
  refine br_f (show bsel false true (decide (((boolR l.gets).length : Int) ≠ ((boolR l.gets).length : Int))) = false by simp [bsel]) ?_
  conv => whnf
  intro hw
  refine wpc_loop2 (fun n1 s1 => ∃ j : Nat, j ≤ l.gets.length ∧ n1 = l.gets.length - j ∧ s1 = lsS l j) l.gets.length (lsS l 0) ?_ ⟨0, by omega, rfl, rfl⟩ ?_ ?_
  · exact weak2 hw rfl ⟨.ptr 0 0 (of_decide_eq_true rfl), .ptr 1 0 (of_decide_eq_true rfl), .im _, trivial⟩ (.cons (.free (leaseC_free' _)) (.cons (.free (leaseC_free' _)) (.nil _))) (fun id hid => by cases hid) rfl (fun id hid => by cases hid)
  · rintro n1 s1 ⟨j, _, _, rfl⟩
    exact ⟨⟨Nat.le_refl 77, fun x hx => by cases hx⟩, rfl, Nat.le_refl _, rfl⟩
  rintro n1 s1 ⟨j, hj, rfl, rfl⟩
  by_cases hjl : j < l.gets.length
  · have hd0 : (true && true && decide ((0 : Int) ≤ (j : Int))) = true := by simp
    have hg1 : (boolR l.gets)[Int.toNat (j : Int)]? = some [.bool l.gets[j]] := rowGet _ l.gets j hjl
    have hwj : IntKind.i64.wrap ((j : Int) + 1) = ((j + 1 : Nat) : Int) := by rw [wrap_i64 (by omega) (by omega)]; rfl
    conv => whnf
    refine br_t (decide_eq_true (by rw [hvl]; omega)) ?_
    conv => whnf
    intro hw2
    refine wpc_draw2 11 (by rfl) (by decide) (by decide) hw2 ?_
    conv => whnf
    refine grd_intro hd0 (optK_intro hg1 ?_)
    conv => whnf
    refine grd_intro hd0 (optK_intro hg1 ?_)
    conv => whnf
    refine br_f (show (l.gets[j] != l.gets[j]) = false by simp) ?_
    conv => whnf
    intro hw3
    refine ⟨l.gets.length - (j + 1), lsS l (j + 1), by omega, ?_, j + 1, by omega, rfl, rfl⟩
    exact weak2 hw3 rfl ⟨.ptr 0 0 (of_decide_eq_true rfl), .ptr 1 0 (of_decide_eq_true rfl), .int hwj, trivial⟩ (.cons (.free (leaseC_free' _)) (.cons (.free (leaseC_free' _)) (.nil _))) (fun id hid => by cases hid) rfl (fun id hid => by cases hid)
  · conv => whnf
    refine br_f (decide_eq_false (by rw [hvl]; omega)) ?_
    conv => whnf
    refine Call2.mono (h1 _) fun r0 H0 h => ?_
    obtain ⟨h1, h2⟩ := h
    rw [h1, h2]
    clear h1 h2 r0 H0
    conv => whnf
    refine Call2.mono (h2 _) fun r0 H0 h => ?_
    obtain ⟨h1, h2⟩ := h
    rw [h1, h2]
    clear h1 h2 r0 H0
    conv => whnf
    refine Call2.mono (h3 _) fun r0 H0 h => ?_
    obtain ⟨h1, h2⟩ := h
    rw [h1, h2]
    clear h1 h2 r0 H0
    conv => whnf
    exact ⟨.im _, rfl⟩
end Go.Abs.Sig

/-! LS3 -/
namespace Go.Abs.Sig
open Go.RowKit Go.Abs
set_option linter.unusedSimpArgs false
set_option linter.unusedVariables false
set_option maxRecDepth 8000
attribute [local irreducible] StCall StYield WPc Weak IterOf Lp2

/-! a lease stays right, whatever the broker says -/
theorem Kept.trans {a b c : LeaseL} (h1 : Kept a b) (h2 : Kept b c) : Kept a c := ⟨h2.s, h2.r, h2.w.trans h1.w, h2.m.trans h1.m⟩
theorem argOf_u64 {c : Cm} (h : ∀ v ∈ c.1.2.2, U64 v.1) (i : Int) : U64 (argOf c.1 i).1 := by
  unfold argOf
  split
  · exact ⟨by decide, by decide⟩
  · cases hg : c.1.2.2[i.toNat]? with
    | none => exact ⟨by decide, by decide⟩
    | some v => exact h v (List.mem_of_getElem? hg)
theorem withC_u64 {c : Cm} (h : ∀ v ∈ c.1.2.2, U64 v.1) (i : Int) {v : Val'} (hv : U64 v.1) : ∀ x ∈ (withC c i v).1.2.2, U64 x.1 := by
  unfold withC withOf
  simp only
  split
  · exact h
  · intro x hx
    rcases List.mem_or_eq_of_mem_set hx with hx | rfl
    · exact h x hx
    · exact hv
theorem kept_delL {l : LeaseL} (hs : LeaseS l) (hr : lRight l = true) {up : Int} (hu : U64 up) : Kept l { l with t := (delL l.t up l.most).1 } := by
  unfold delL
  split
  · exact kept_refl hs hr
  split
  · exact kept_refl hs hr
  split
  · exact kept_refl hs hr
  rename_i h1 h2 h3
  obtain ⟨g1, g2, g3, g4, g5, g6, g7, g8, g9, g10, g11, g12⟩ := lRight_of hr
  obtain ⟨a1, a2, a3, a4, a5, a6, a7, a8, a9, a10, a11, a12, a13, a14, a15⟩ := hs
  have hmb : maxBytes = 140737488355328 := rfl
  have gt := (tRight_iff _).1 g4
  have hw : IntKind.u64.wrap (l.t.nx + 1) = l.t.nx + 1 := by rw [IntKind.wrap_u64]; have := a5.1; have := a5.2; omega
  rw [hw]
  refine ⟨⟨a1, a2, a3, a4, ⟨by have := a5.1; simp only; omega, by have := a5.2; simp only; omega⟩, hu, a7, a8, ?_, fun x hx => ?_, a11, a12, a13, a14, a15⟩, lRight_mk g1 g2 g3 ?_ g5 g6 g7 g8 ?_ g10 g11 g12, rfl, rfl⟩
  · simp only [List.length_append, List.length_singleton]
    omega
  · rcases List.mem_append.1 hx with hx | hx
    · exact a10 x hx
    · obtain rfl := List.mem_singleton.1 hx
      exact ⟨a5, hu⟩
  · refine (tRight_iff ⟨l.t.nx + 1, up, l.t.l ++ [(l.t.nx, up)]⟩).2 ⟨by have := gt.1; simp only; omega, fun x hx => ?_, ?_⟩
    · rcases List.mem_append.1 hx with hx | hx
      · have := gt.2.1 x hx
        simp only
        exact ⟨this.1, by omega, this.2.2.1, by omega⟩
      · obtain rfl := List.mem_singleton.1 hx
        have := gt.1
        simp only
        refine ⟨this, by omega, ?_, Int.le_refl _⟩
        have := a6.1
        omega
    · show (l.t.l ++ [_]).Pairwise _
      rw [List.pairwise_append]
      refine ⟨gt.2.2, by simp, fun x hx y hy => ?_⟩
      obtain rfl := List.mem_singleton.1 hy
      have := gt.2.1 x hx
      simp only
      exact ⟨this.2.1, by omega⟩
  · simp only [List.length_append, List.length_singleton]
    omega
theorem setL_sub (t : TagsL) (m : Int) (many : Bool) : ∃ x, (setL t m many).1 = { t with l := x } ∧ x.Sublist t.l := by
  by_cases h : (setL t m many).2.2 = 0
  · obtain ⟨a, b, hab, hb, e1, _⟩ := setL_ok h
    exact ⟨_, e1, cut_sub _ (by omega)⟩
  · refine ⟨t.l, ?_, List.Sublist.refl _⟩
    unfold setL at h ⊢
    split at h
    · exact absurd rfl h
    · rfl
theorem kept_delW {l : LeaseL} (hs : LeaseS l) (hr : lRight l = true) {up : Int} (hu : U64 up) (free : Bool) : Kept l { l with t := (delW l up free).1 } := by
  have hd := kept_delL hs hr hu
  unfold delW
  split
  · obtain ⟨x, e1, hx⟩ := setL_sub (delL l.t up l.most).1 (delL l.t up l.most).2.1 false
    simp only
    rw [e1]
    exact hd.trans (kept_t hd.s hd.r hx)
  · exact hd
theorem kept_gets {l : LeaseL} (hs : LeaseS l) (hr : lRight l = true) {g : List Bool} (hg : g.length ≤ l.gets.length) : Kept l { l with gets := g } := by
  obtain ⟨g1, g2, g3, g4, g5, g6, g7, g8, g9, g10, g11, g12⟩ := lRight_of hr
  obtain ⟨a1, a2, a3, a4, a5, a6, a7, a8, a9, a10, a11, a12, a13, a14, a15⟩ := hs
  refine ⟨⟨a1, a2, a3, a4, a5, a6, a7, a8, a9, a10, a11, a12, a13, a14, ?_⟩, lRight_mk g1 g2 g3 g4 g5 g6 g7 g8 g9 g10 g11 ?_, rfl, rfl⟩
  · simp only; omega
  · simp only; omega
theorem sRight_sub {s : SeqL} {l : List Int} (h : sRight s = true) (hl : l.Sublist s.l) : sRight { s with l := l } = true := by
  rcases Bool.eq_false_or_eq_true s.on with hon | hon
  · have h1 := (sRight_on s hon).1 h
    exact (sRight_on { s with l := l } hon).2 ⟨h1.1, h1.2.1, fun x hx => h1.2.2.1 x (hl.subset hx), h1.2.2.2.sublist hl⟩
  · have h1 := (sRight_off s hon).1 h
    rw [h1.2.2] at hl
    exact (sRight_off { s with l := l } hon).2 ⟨h1.1, h1.2.1, List.sublist_nil.1 hl⟩
theorem kept_s {l : LeaseL} (hs : LeaseS l) (hr : lRight l = true) {s : List Int} (h : s.Sublist l.s.l) : Kept l { l with s := { l.s with l := s } } := by
  obtain ⟨g1, g2, g3, g4, g5, g6, g7, g8, g9, g10, g11, g12⟩ := lRight_of hr
  obtain ⟨a1, a2, a3, a4, a5, a6, a7, a8, a9, a10, a11, a12, a13, a14, a15⟩ := hs
  have hl := h.length_le
  refine ⟨⟨a1, a2, a3, a4, a5, a6, a7, a8, a9, a10, ?_, fun x hx => a12 x (h.subset hx), a13, a14, a15⟩, lRight_mk g1 g2 g3 g4 (sRight_sub g5 h) g6 g7 g8 g9 ?_ g11 g12, rfl, rfl⟩
  · simp only; omega
  · simp only; omega
theorem confL_sub (s : SeqL) (up : Int) (many : Bool) : ∃ x, (confL s up many).1 = { s with l := x } ∧ x.Sublist s.l := by
  unfold confL
  split
  · exact ⟨s.l, rfl, List.Sublist.refl _⟩
  · exact ⟨_, rfl, List.filter_sublist⟩
theorem kept_acti {l : LeaseL} {c : Cm} (hs : LeaseS l) (hr : lRight l = true) (hu : ∀ v ∈ c.1.2.2, U64 v.1) (g : Nat) : Kept l (actI g l c).1 := by
  have h0 : U64 0 := ⟨by decide, by decide⟩
  unfold actI
  split
  · exact kept_refl hs hr
  split
  · unfold wCancelled
    split
    · exact kept_refl hs hr
    · simp only
      exact kept_n hs hr List.filter_sublist
  split
  · have hu1 : ∀ v ∈ (wNamed l c 0).1.1.2.2, U64 v.1 := by
      unfold wNamed
      split
      · exact hu
      · exact withC_u64 hu 0 h0
    unfold wDeliv
    split
    rename_i c1 e1 x is hx
    rw [hx] at hu1
    split
    · exact kept_refl hs hr
    · exact kept_delW hs hr (argOf_u64 hu1 1) _
  split
  · unfold wGot
    split
    · exact kept_refl hs hr
    · rename_i f g hg
      have hk := kept_gets hs hr (g := g) (by rw [hg]; simp)
      exact hk.trans (kept_delW hk.s hk.r (argOf_u64 hu 0) f)
  split
  · unfold wFirst
    split
    · exact kept_refl hs hr
    · rename_i f g hg
      exact kept_gets hs hr (by rw [hg]; simp)
  split
  · obtain ⟨x, e1, hx⟩ := confL_sub l.s (argOf c.1 0).1 (decide ((argOf c.1 1).1 ≠ 0))
    unfold wConfirmed
    split
    rename_i s n e he
    rw [he] at e1
    simp only at e1
    subst e1
    split
    split
    · exact kept_s hs hr hx
    · exact kept_s hs hr hx
  · exact kept_refl hs hr
theorem kept_in {l : LeaseL} {c : Cm} (hs : LeaseS l) (hr : lRight l = true) (hu : ∀ v ∈ c.1.2.2, U64 v.1) : Kept l (inL l c).1 := by
  unfold inL
  split
  · exact kept_refl hs hr
  split
  · exact kept_refl hs hr
  · exact kept_acti hs hr hu _
end Go.Abs.Sig

/-! LS4 -/
namespace Go.Abs.Sig
open Go.RowKit Go.Abs
set_option linter.unusedSimpArgs false
set_option linter.unusedVariables false
set_option maxRecDepth 8000
attribute [local irreducible] StCall StYield WPc Weak IterOf Lp2

theorem outL_err {l : LeaseL} {c : Cm} (h : (outL l c).2.2 ≠ 0) : (outL l c).1 = l ∧ (outL l c).2.1 = zCm := by
  unfold outL at h ⊢
  split
  · exact ⟨rfl, rfl⟩
  split
  · exact ⟨rfl, rfl⟩
  split
  · exact ⟨rfl, rfl⟩
  · rename_i h1 h2 h3
    rw [if_neg h1, if_neg h2, if_neg h3] at h
    exact absurd rfl h
theorem zCm_s : CmS zCm := ⟨fun v hv => absurd hv (List.not_mem_nil), fun v hv => absurd hv (List.not_mem_nil), Nat.zero_le _, Nat.zero_le _⟩
theorem rczero_ct (G : Nat → Option (List V)) (H : Heap) : Call2 Go.Proofs.Tryz.prog G 13 [.agg (ccells zCm), .agg zcV] H fun r H' => H' = H ∧ r = .bool true := by
  have h := rcsame_ct G zCm zCm zCm_s (Nat.zero_le _) H
  have e : cmEq zCm zCm = true := by unfold cmEq; simp
  rw [e] at h
  exact Call2.weakA (.cons (.free (ccells_free _)) (.cons (VW.aggL (.cons (.im _) (.cons (.im _) (.cons vw_nil (.cons (.im _) (.cons (.im _) (.cons (.im _) (.cons vw_nil (.cons (.str _) .nil))))))))) .nil)) h
set_option maxHeartbeats 4000000 in
theorem leaseStays_ct (G : Nat → Option (List V)) (hG0 : G 0 = some powV) (hG1 : G 1 = some wV) (l : LeaseL) (c d : Cm) (hs : LeaseS l) (hc : CmS c) (hcl : c.1.2.2.length * 24 ≤ maxBytes) (hd : CmS d) (hdl : d.1.2.2.length * 24 ≤ maxBytes) (hdu : ∀ v ∈ d.1.2.2, U64 v.1) (H : Heap) :
    Call2 Go.Proofs.Tryz.prog G 7 [.agg (leaseC l), .agg (ccells c), .agg (ccells d)] H fun r H' => H' = H ∧ r = .bool true := by
  refine Call2.free (fun x hx => by
    simp only [List.mem_cons, List.not_mem_nil, or_false] at hx
    rcases hx with rfl | rfl | rfl
    · exact .agg _ (leaseC_free' _)
    · exact ccells_free _
    · exact ccells_free _) ?_ H
  have hsh := shown18_ct G hG0 hG1
  have hlr := lright_ct G l hs
  have hls := rlsame_ct G l hs
  have hcz := rczero_ct G
  have hout := fun h => out_ct G hG0 hG1 l c (outOk_of hs h hc hcl)
  have hin := fun h => in_ct G hG1 l d (inOk_of hs h hd hdl)
  have hko := fun h => @kept_out l c hs h hc
  have hki := fun h => @kept_in l d hs h hdu
  have hoe := @outL_err l c
  have hie := @inL_err l d
  generalize outL l c = u at hout hko hoe
  generalize inL l d = w at hin hki hie
  obtain ⟨ul, uc, ue⟩ := u
  obtain ⟨wl, wo, we⟩ := w
  simp only at hko hki hoe hie
  cases hrt : lRight l
  · rw [hrt] at hlr
    clear hout hin hko hki
    refine stCall2 Go.Proofs.Tryz.func7 rfl (by decide) ?_
    conv => whnf
    refine Call2.mono (hsh _) fun r0 H0 h => ?_
    obtain ⟨h1, h2⟩ := h
    rw [h1, h2]
    clear h1 h2 r0 H0
    conv => whnf
    refine Call2.mono (hlr _) fun r0 H0 h => ?_
    obtain ⟨h1, h2⟩ := h
    rw [h1, h2]
    clear h1 h2 r0 H0
    conv => whnf
    exact ⟨.im _, rfl⟩
  have hro := lright_ct G ul (hko hrt).s
  have hri := lright_ct G wl (hki hrt).s
  rw [(hko hrt).r] at hro
  rw [(hki hrt).r] at hri
  have hout := hout hrt
  have hin := hin hrt
  rw [hrt] at hlr
  clear hko hki
  refine stCall2 Go.Proofs.Tryz.func7 rfl (by decide) ?_
  conv => whnf
  refine Call2.mono (hsh _) fun r0 H0 h => ?_
  obtain ⟨h1, h2⟩ := h
  rw [h1, h2]
  clear h1 h2 r0 H0
  conv => whnf
  refine Call2.mono (hlr _) fun r0 H0 h => ?_
  obtain ⟨h1, h2⟩ := h
  rw [h1, h2]
  clear h1 h2 r0 H0
  conv => whnf
  refine Call2.mono (hout _) fun r0 H0 h => ?_
  obtain ⟨h1, h2⟩ := h
  rw [h1, h2]
  clear h1 h2 r0 H0
  conv => whnf
  refine Call2.mono (hin _) fun r0 H0 h => ?_
  obtain ⟨h1, h2⟩ := h
  rw [h1, h2]
  clear h1 h2 r0 H0
  conv => whnf
  by_cases hue : ue = 0
  · refine br_f (show decide (ue ≠ 0) = false from decide_eq_false (by simpa using hue)) ?_
    conv => whnf
    by_cases hwe : we = 0
    · refine br_f (show decide (we ≠ 0) = false from decide_eq_false (by simpa using hwe)) ?_
      conv => whnf
      refine Call2.mono (hro _) fun r0 H0 h => ?_
      obtain ⟨h1, h2⟩ := h
      rw [h1, h2]
      clear h1 h2 r0 H0
      conv => whnf
      refine Call2.mono (hri _) fun r0 H0 h => ?_
      obtain ⟨h1, h2⟩ := h
      rw [h1, h2]
      clear h1 h2 r0 H0
      conv => whnf
      exact ⟨.im _, rfl⟩
    · obtain ⟨rfl, rfl⟩ := hie hwe
      refine br_t (show decide (we ≠ 0) = true from decide_eq_true hwe) ?_
      conv => whnf
      refine Call2.mono (hls _) fun r0 H0 h => ?_
      obtain ⟨h1, h2⟩ := h
      rw [h1, h2]
      clear h1 h2 r0 H0
      conv => whnf
      refine Call2.mono (hro _) fun r0 H0 h => ?_
      obtain ⟨h1, h2⟩ := h
      rw [h1, h2]
      clear h1 h2 r0 H0
      conv => whnf
      refine Call2.mono (hri _) fun r0 H0 h => ?_
      obtain ⟨h1, h2⟩ := h
      rw [h1, h2]
      clear h1 h2 r0 H0
      conv => whnf
      exact ⟨.im _, rfl⟩
  · obtain ⟨rfl, rfl⟩ := hoe hue
    refine br_t (show decide (ue ≠ 0) = true from decide_eq_true hue) ?_
    conv => whnf
    refine Call2.mono (hls _) fun r0 H0 h => ?_
    obtain ⟨h1, h2⟩ := h
    rw [h1, h2]
    clear h1 h2 r0 H0
    conv => whnf
    refine Call2.mono (hcz _) fun r0 H0 h => ?_
    obtain ⟨h1, h2⟩ := h
    rw [h1, h2]
    clear h1 h2 r0 H0
    conv => whnf
    by_cases hwe : we = 0
    · refine br_f (show decide (we ≠ 0) = false from decide_eq_false (by simpa using hwe)) ?_
      conv => whnf
      refine Call2.mono (hro _) fun r0 H0 h => ?_
      obtain ⟨h1, h2⟩ := h
      rw [h1, h2]
      clear h1 h2 r0 H0
      conv => whnf
      refine Call2.mono (hri _) fun r0 H0 h => ?_
      obtain ⟨h1, h2⟩ := h
      rw [h1, h2]
      clear h1 h2 r0 H0
      conv => whnf
      exact ⟨.im _, rfl⟩
    · obtain ⟨rfl, rfl⟩ := hie hwe
      refine br_t (show decide (we ≠ 0) = true from decide_eq_true hwe) ?_
      conv => whnf
      refine Call2.mono (hls _) fun r0 H0 h => ?_
      obtain ⟨h1, h2⟩ := h
      rw [h1, h2]
      clear h1 h2 r0 H0
      conv => whnf
      refine Call2.mono (hro _) fun r0 H0 h => ?_
      obtain ⟨h1, h2⟩ := h
      rw [h1, h2]
      clear h1 h2 r0 H0
      conv => whnf
      refine Call2.mono (hri _) fun r0 H0 h => ?_
      obtain ⟨h1, h2⟩ := h
      rw [h1, h2]
      clear h1 h2 r0 H0
      conv => whnf
      exact ⟨.im _, rfl⟩
end Go.Abs.Sig

/-! LWG -/
namespace Go.Abs.Sig
open Go.RowKit Go.Abs Go.ChangeShapes Go.WideShapes Go.ChangeAt
set_option linter.unusedSimpArgs false
set_option linter.unusedVariables false
set_option maxRecDepth 8000

def laidZ : List (String × DataW Unit) := [("math/bits.deBruijn32tab", Go.Proofs.YtdpbkooiibaaaaaGreatDoor.Rows.laid_math_bits_deBruijn32tab), ("math/bits.deBruijn64tab", Go.Proofs.YtdpbkooiibaaaaaGreatDoor.Rows.laid_math_bits_deBruijn64tab),
  ("internal/strconv.uint64pow10", Go.Proofs.YtdpbkooiibaaaaaGreatDoor.Rows.laid_internal_strconv_uint64pow10), ("interchange/num.widths", Go.Proofs.YtdpbkooiibaaaaaGreatDoor.Rows.laid_interchange_num_widths)]
def wInts : List Int := [1, 2, 4, 8]
def pInts : List Int := (List.range 20).map fun i => ((10 ^ i : Nat) : Int)
theorem laidW_eq : (Go.Proofs.YtdpbkooiibaaaaaGreatDoor.Rows.laid_interchange_num_widths : DataW Unit) = .agg (wInts.map fun n => .lit (.int .i64 n)) := rfl
theorem laidP_eq : (Go.Proofs.YtdpbkooiibaaaaaGreatDoor.Rows.laid_internal_strconv_uint64pow10 : DataW Unit) = .agg (pInts.map fun n => .lit (.int .u64 n)) := by kernel_rfl
theorem gW : Program.globalNamed Go.Proofs.Tryz.prog "interchange/num.widths" = some 1 := by kernel_rfl
theorem gP : Program.globalNamed Go.Proofs.Tryz.prog "internal/strconv.uint64pow10" = some 0 := by kernel_rfl
def GW (g : Nat) : Option (List V) := if g = 0 then some powV else if g = 1 then some wV else none
theorem GW0 : GW 0 = some powV := rfl
theorem GW1 : GW 1 = some wV := rfl
/-- The cells of a listed row of numbers. -/
theorem arr_cells {enc : TypeId × Value → Unit} {W : World} {sp : Nat → Bool} {held : Bool} {b f0 : Nat} {l : List Value} {p0 : List MemPlace} {ta te : TypeId} {k : IntKind} {m : Nat} {zs : List Int} (hta : Program.underlying Go.Proofs.Tryz.prog ta = some (.array m te)) (hte : Program.underlying Go.Proofs.Tryz.prog te = some (.int k)) (hc : Program.cellsOf Go.Proofs.Tryz.prog te = 1)
    (hd : DataW.trod enc Go.Proofs.Tryz.prog W b sp held f0 ta l = some (.agg (zs.map fun n => .lit (.int k n)), p0)) (hm : zs.length = m) (i : Nat) (n : Int) (hr : zs[i]? = some n) :
    l[i]? = some (.int k n) := by
  obtain ⟨xs, m', _, hx, hlen, hn, hel⟩ := DataW.trod_array hta hd
  simp only [Prod.mk.injEq, DataW.agg.injEq] at hx
  have hi : i < m := by rw [← hm]; exact (List.getElem?_eq_some_iff.1 hr).1
  have hxi : (xs.map (·.1))[i]? = some (.lit (.int k n)) := by rw [← hx.1, List.getElem?_map, hr]; rfl
  rw [List.getElem?_map] at hxi
  obtain ⟨y, hy, hye⟩ := Option.map_eq_some_iff.1 hxi
  have he := hel i hi
  rw [hc, hy] at he
  obtain ⟨k1, g1, g1', _⟩ := DataW.trod_int hte he
  rw [g1'] at hye
  simp only [DataW.lit.injEq, Lit.int.injEq, true_and] at hye
  subst hye
  have h0 : ((l.drop (i * 1)).take 1)[0]? = some (.int k k1) := by rw [g1]; rfl
  rw [List.getElem?_take_of_lt (by omega), List.getElem?_drop] at h0
  simpa using h0
theorem tP : (Go.Proofs.Tryz.prog.globals[0]?).map (·.type) = some 245 := by kernel_rfl
theorem tW : (Go.Proofs.Tryz.prog.globals[1]?).map (·.type) = some 255 := by kernel_rfl
theorem pInts_at (j : Nat) (h : j < 20) : pInts[j]? = some ((10 ^ j : Nat) : Int) := by
  unfold pInts
  rw [List.getElem?_map, List.getElem?_range h]
  rfl
theorem glob_GZ {W : World} (h : laidMetH Go.Proofs.Tryz.prog laidZ W) : ∀ g cs, GW g = some cs → Rep W (Env.all W) (.rp cs) (.pointer (some ⟨g, 0, none⟩)) := by
  intro g cs hg
  rw [MakeChecks.laidMetH_plain _ _ _ (by kernel_rfl)] at h
  obtain ⟨ps, ⟨ga, ta, ca, fa, pa, qa, hga, hta, hva, hda, ⟨gb, tb, cb, fb, pb, qb, hgb, htb, hvb, hdb, ⟨g1, t1, cs1, f1, p1, q1, hg1, ht1, hv1, hd1, ⟨g0, t0, cs0, f0, p0, q0, hg0, ht0, hv0, hd0, _, _⟩, _⟩, _⟩, _⟩, _, _⟩ := h
  obtain rfl := Option.some.inj (gP.symm.trans hg1)
  obtain rfl := Option.some.inj (tP.symm.trans ht1)
  obtain rfl := Option.some.inj (gW.symm.trans hg0)
  obtain rfl := Option.some.inj (tW.symm.trans ht0)
  have hcell0 : ∀ j, W.cell? ⟨1, j, none⟩ = cs0[j]? := fun j => World.var?_cell hg0 hv0 j
  have hcell1 : ∀ j, W.cell? ⟨0, j, none⟩ = cs1[j]? := fun j => World.var?_cell hg1 hv1 j
  unfold GW at hg
  split at hg
  · rename_i h1
    subst h1
    obtain rfl : powV = cs := Option.some.inj hg
    refine rep_glob (fun j => (W.cell? ⟨0, j, none⟩).getD (.int .i64 0)) fun j v hv => ?_
    have hj : j < 20 := (List.getElem?_eq_some_iff.1 hv).1
    rw [laidP_eq] at hd1
    have c0 := arr_cells (k := .u64) (zs := pInts) (m := 20) Go.Proofs.Tryz.underlying245 Go.Proofs.Tryz.underlying22 (by kernel_rfl) hd1 rfl j _ (pInts_at j hj)
    rw [powV_at hj] at hv
    obtain rfl := Option.some.inj hv
    have hc : cs1[j]? = some (.int .u64 ((10 ^ j : Nat) : Int)) := by simpa using c0
    rw [hcell1 j, hc]
    exact ⟨rfl, rfl⟩
  split at hg
  · rename_i h1
    subst h1
    obtain rfl : wV = cs := Option.some.inj hg
    refine rep_glob (fun j => (W.cell? ⟨1, j, none⟩).getD (.int .i64 0)) fun j v hv => ?_
    have hj : j < 4 := (List.getElem?_eq_some_iff.1 hv).1
    obtain ⟨n, hr⟩ : ∃ n, wInts[j]? = some n := ⟨_, List.getElem?_eq_getElem (by show j < 4; exact hj)⟩
    rw [laidW_eq] at hd0
    have c0 := arr_cells (k := .i64) (zs := wInts) (m := 4) Go.Proofs.Tryz.underlying255 Go.Proofs.Tryz.underlying3 (by kernel_rfl) hd0 rfl j n hr
    have hv' : v = .int .i64 n := by
      have : wV = wInts.map fun n => V.int .i64 n := rfl
      rw [this, List.getElem?_map, hr] at hv
      exact (Option.some.inj hv).symm
    have hc : cs0[j]? = some (.int .i64 n) := by simpa using c0
    rw [hcell0 j, hc, hv']
    exact ⟨rfl, rfl⟩
  · cases hg

/-- A start that meets the condition. -/
theorem startZ_met (os : Os) (args : Array Value) : laidMetH Go.Proofs.Tryz.prog laidZ ((World.laidAll Go.Proofs.Tryz.prog os laidZ).forCall (fun _ _ => 0) ⟨#[], args, []⟩).memory := by
  rw [MakeChecks.laidMetH_plain _ _ _ (by kernel_rfl)]
  exact laidMet_laidAll _ (by kernel_rfl) (by kernel_rfl)

/-! what is handed over -/
def OkHd (h : Hd) : Prop := (-9223372036854775808 ≤ h.1 ∧ h.1 ≤ 9223372036854775807) ∧ (0 ≤ h.2.1 ∧ h.2.1 ≤ 18446744073709551615) ∧ (0 ≤ h.2.2.1 ∧ h.2.2.1 ≤ 18446744073709551615) ∧ h.2.2.2.length * 24 ≤ reachBytes ∧ ∀ v ∈ h.2.2.2, OkVal v
def OkCm (c : Cm) : Prop := OkMet c.1 ∧ OkHd c.2.1 ∧ c.2.2.length ≤ maxBytes
theorem sh_hd {n : Nat} {vs : List V} (h : Sh Go.Proofs.Tryz.prog (n + 4) 39 vs) : ∃ m : Hd, vs = hdcells m ∧ OkHd m := by
  obtain ⟨p, q, h1, ⟨p', q', h2, ⟨p'', q'', h3, ⟨p3, q3, h4, rfl, rfl⟩, rfl⟩, rfl⟩, rfl⟩ := sh_struct Go.Proofs.Tryz.underlying39 h
  obtain ⟨a, rfl, ha⟩ := sh_int Go.Proofs.Tryz.underlying3 h1
  obtain ⟨b, rfl, hb⟩ := sh_int Go.Proofs.Tryz.underlying22 h2
  obtain ⟨c, rfl, hc⟩ := sh_int Go.Proofs.Tryz.underlying22 h3
  obtain ⟨rows, rfl, hr, he⟩ := sh_slice Go.Proofs.Tryz.underlying35 h4
  obtain ⟨l, rfl, hl⟩ := rows_of (f := fun v : Val' => [.int .u64 v.1, .str v.2]) rows fun r hr => sh_val (he r hr)
  have hcc : Program.cellsOf Go.Proofs.Tryz.prog 50 = 2 := by kernel_rfl
  have hby : Program.bytesOf Go.Proofs.Tryz.prog 50 = 24 := by kernel_rfl
  rw [hcc]
  rw [hby, List.length_map] at hr
  exact ⟨(a, b, c, l), rfl, wf_i64 ha, wf_u64 hb, wf_u64 hc, hr, hl⟩
theorem sh_cm {n : Nat} {vs : List V} (h : Sh Go.Proofs.Tryz.prog (n + 5) 41 vs) : ∃ c : Cm, vs = ccells c ∧ OkCm c := by
  obtain ⟨p, q, h1, ⟨p', q', h2, ⟨p'', q'', h3, rfl, rfl⟩, rfl⟩, rfl⟩ := sh_struct Go.Proofs.Tryz.underlying41 h
  obtain ⟨m, rfl, hm⟩ := sh_met h1
  obtain ⟨hd, rfl, hh⟩ := sh_hd h2
  obtain ⟨l, rfl, hl⟩ := sh_str Go.Proofs.Tryz.underlying9 h3
  exact ⟨(m, hd, l), by unfold ccells; simp, hm, hh, hl⟩
theorem shv_cm {n : Nat} {x : V} (h : ShV Go.Proofs.Tryz.prog (n + 5) 41 x) : ∃ c : Cm, x = .agg (ccells c) ∧ OkCm c := by
  have ha : aggT Go.Proofs.Tryz.prog 41 = true := by kernel_rfl
  unfold ShV at h
  rw [ha] at h
  obtain ⟨vs, rfl, h⟩ := h
  obtain ⟨m, rfl, hm⟩ := sh_cm h
  exact ⟨m, rfl, hm⟩
theorem okCm_s {c : Cm} (h : OkCm c) : CmS c ∧ c.1.2.2.length * 24 ≤ maxBytes := by
  obtain ⟨h1, h2, h3⟩ := h
  refine ⟨⟨fun v hv => (h1.2.2.2 v hv).2, fun v hv => (h2.2.2.2.2 v hv).2, ?_, h3⟩, Nat.le_trans h1.2.2.1 reach_le⟩
  have : c.2.1.2.2.2.length * 24 ≤ 140737488351232 := h2.2.2.2.1
  show c.2.1.2.2.2.length ≤ 2 ^ 63 - 1
  omega
theorem i64_of {x : Int} (h : (Lit.int .i64 x).wf = true) : I64 x := by have := wf_i64 h; exact ⟨this.1, by omega⟩
theorem u64_of {x : Int} (h : (Lit.int .u64 x).wf = true) : U64 x := by have := wf_u64 h; exact ⟨this.1, by omega⟩
theorem sh_tags {n : Nat} {vs : List V} (h : Sh Go.Proofs.Tryz.prog (n + 4) 25 vs) : ∃ t : TagsL, vs = tagsC t ∧ U64 t.nx ∧ U64 t.la ∧ t.l.length * 16 ≤ maxBytes ∧ ∀ x ∈ t.l, U64 x.1 ∧ U64 x.2 := by
  obtain ⟨p, q, h1, ⟨p', q', h2, ⟨p'', q'', h3, rfl, rfl⟩, rfl⟩, rfl⟩ := sh_struct Go.Proofs.Tryz.underlying25 h
  obtain ⟨a, rfl, ha⟩ := sh_int Go.Proofs.Tryz.underlying22 h1
  obtain ⟨b, rfl, hb⟩ := sh_int Go.Proofs.Tryz.underlying22 h2
  obtain ⟨rows, rfl, hr, he⟩ := sh_slice Go.Proofs.Tryz.underlying23 h3
  obtain ⟨l, rfl, hl⟩ := rows_of (f := fun v : Int × Int => [.int .u64 v.1, .int .u64 v.2]) (Q := fun x => U64 x.1 ∧ U64 x.2) rows fun r hr => by
    obtain ⟨p, q, h1, ⟨p', q', h2, rfl, rfl⟩, rfl⟩ := sh_struct Go.Proofs.Tryz.underlying48 (he r hr)
    obtain ⟨a, rfl, ha⟩ := sh_int Go.Proofs.Tryz.underlying22 h1
    obtain ⟨b, rfl, hb⟩ := sh_int Go.Proofs.Tryz.underlying22 h2
    exact ⟨(a, b), rfl, u64_of ha, u64_of hb⟩
  have hcc : Program.cellsOf Go.Proofs.Tryz.prog 48 = 2 := by kernel_rfl
  have hby : Program.bytesOf Go.Proofs.Tryz.prog 48 = 16 := by kernel_rfl
  rw [hcc]
  rw [hby, List.length_map] at hr
  exact ⟨⟨a, b, l⟩, rfl, u64_of ha, u64_of hb, Nat.le_trans hr reach_le, hl⟩
theorem sh_seq {n : Nat} {vs : List V} (h : Sh Go.Proofs.Tryz.prog (n + 4) 28 vs) : ∃ t : SeqL, vs = seqC t ∧ U64 t.nx ∧ U64 t.off ∧ t.l.length * 8 ≤ maxBytes ∧ ∀ x ∈ t.l, U64 x := by
  obtain ⟨p, q, h1, ⟨p', q', h2, ⟨p'', q'', h3, ⟨p3, q3, h4, rfl, rfl⟩, rfl⟩, rfl⟩, rfl⟩ := sh_struct Go.Proofs.Tryz.underlying28 h
  obtain ⟨o, rfl⟩ := sh_bool Go.Proofs.Tryz.underlying4 h1
  obtain ⟨a, rfl, ha⟩ := sh_int Go.Proofs.Tryz.underlying22 h2
  obtain ⟨b, rfl, hb⟩ := sh_int Go.Proofs.Tryz.underlying22 h3
  obtain ⟨rows, rfl, hr, he⟩ := sh_slice Go.Proofs.Tryz.underlying26 h4
  obtain ⟨l, rfl, hl⟩ := rows_of (f := fun v : Int => [.int .u64 v]) (Q := U64) rows fun r hr => by
    obtain ⟨a, rfl, ha⟩ := sh_int Go.Proofs.Tryz.underlying22 (he r hr)
    exact ⟨a, rfl, u64_of ha⟩
  have hcc : Program.cellsOf Go.Proofs.Tryz.prog 22 = 1 := by kernel_rfl
  have hby : Program.bytesOf Go.Proofs.Tryz.prog 22 = 8 := by kernel_rfl
  rw [hcc]
  rw [hby, List.length_map] at hr
  exact ⟨⟨o, a, b, l⟩, rfl, u64_of ha, u64_of hb, Nat.le_trans hr reach_le, hl⟩
theorem sh_names {n : Nat} {vs : List V} (h : Sh Go.Proofs.Tryz.prog (n + 4) 31 vs) : ∃ t : NamesL, vs = namesC t ∧ I64 t.who ∧ U64 t.made ∧ t.l.length * 40 ≤ maxBytes ∧ ∀ x ∈ t.l, x.1.length ≤ maxBytes ∧ x.2.1.length ≤ maxBytes := by
  obtain ⟨p, q, h1, ⟨p', q', h2, ⟨p'', q'', h3, rfl, rfl⟩, rfl⟩, rfl⟩ := sh_struct Go.Proofs.Tryz.underlying31 h
  obtain ⟨a, rfl, ha⟩ := sh_int Go.Proofs.Tryz.underlying3 h1
  obtain ⟨b, rfl, hb⟩ := sh_int Go.Proofs.Tryz.underlying22 h2
  obtain ⟨rows, rfl, hr, he⟩ := sh_slice Go.Proofs.Tryz.underlying29 h3
  obtain ⟨l, rfl, hl⟩ := rows_of (f := nmcells) (Q := fun x => x.1.length ≤ maxBytes ∧ x.2.1.length ≤ maxBytes) rows fun r hr => by
    obtain ⟨p, q, h1, ⟨p', q', h2, ⟨p'', q'', h3, rfl, rfl⟩, rfl⟩, rfl⟩ := sh_struct Go.Proofs.Tryz.underlying85 (he r hr)
    obtain ⟨a, rfl, ha⟩ := sh_str Go.Proofs.Tryz.underlying9 h1
    obtain ⟨b, rfl, hb⟩ := sh_str Go.Proofs.Tryz.underlying9 h2
    obtain ⟨c, rfl⟩ := sh_bool Go.Proofs.Tryz.underlying4 h3
    exact ⟨(a, b, c), rfl, ha, hb⟩
  have hcc : Program.cellsOf Go.Proofs.Tryz.prog 85 = 3 := by kernel_rfl
  have hby : Program.bytesOf Go.Proofs.Tryz.prog 85 = 40 := by kernel_rfl
  rw [hcc]
  rw [hby, List.length_map] at hr
  exact ⟨⟨a, b, l⟩, rfl, i64_of ha, u64_of hb, Nat.le_trans hr reach_le, hl⟩
theorem sh_lease {n : Nat} {vs : List V} (h : Sh Go.Proofs.Tryz.prog (n + 5) 34 vs) : ∃ l : LeaseL, vs = leaseC l ∧ LeaseS l := by
  obtain ⟨p, q, h1, ⟨p2, q2, h2, ⟨p3, q3, h3, ⟨p4, q4, h4, ⟨p5, q5, h5, ⟨p6, q6, h6, ⟨p7, q7, h7, rfl, rfl⟩, rfl⟩, rfl⟩, rfl⟩, rfl⟩, rfl⟩, rfl⟩ := sh_struct Go.Proofs.Tryz.underlying34 h
  obtain ⟨w, rfl, hw⟩ := sh_int Go.Proofs.Tryz.underlying3 h1
  obtain ⟨t, rfl, t1, t2, t3, t4⟩ := sh_tags h2
  obtain ⟨s, rfl, s1, s2, s3, s4⟩ := sh_seq h3
  obtain ⟨m, rfl, m1, m2, m3, m4⟩ := sh_names h4
  obtain ⟨x, rfl⟩ := sh_bool Go.Proofs.Tryz.underlying4 h5
  obtain ⟨rows, rfl, hr, he⟩ := sh_slice Go.Proofs.Tryz.underlying32 h6
  obtain ⟨o, rfl, ho⟩ := sh_int Go.Proofs.Tryz.underlying3 h7
  obtain ⟨l, rfl, hl⟩ := rows_of (f := fun v : Bool => [.bool v]) (Q := fun _ => True) rows fun r hr => by
    obtain ⟨a, rfl⟩ := sh_bool Go.Proofs.Tryz.underlying4 (he r hr)
    exact ⟨a, rfl, trivial⟩
  have hcc : Program.cellsOf Go.Proofs.Tryz.prog 4 = 1 := by kernel_rfl
  have hby : Program.bytesOf Go.Proofs.Tryz.prog 4 = 1 := by kernel_rfl
  rw [hcc]
  rw [hby, List.length_map, Nat.mul_one] at hr
  exact ⟨⟨w, t, s, m, x, l, o⟩, by unfold leaseC; simp [boolR], ⟨i64_of hw, i64_of ho, m1, m2, t1, t2, s1, s2, t3, t4, s3, s4, m3, m4, Nat.le_trans hr reach_le⟩⟩
theorem shv_lease {n : Nat} {x : V} (h : ShV Go.Proofs.Tryz.prog (n + 5) 34 x) : ∃ l : LeaseL, x = .agg (leaseC l) ∧ LeaseS l := by
  have ha : aggT Go.Proofs.Tryz.prog 34 = true := by kernel_rfl
  unfold ShV at h
  rw [ha] at h
  obtain ⟨vs, rfl, h⟩ := h
  obtain ⟨m, rfl, hm⟩ := sh_lease h
  exact ⟨m, rfl, hm⟩
end Go.Abs.Sig

/-! LW3 -/
namespace Go.Abs.Sig
open Go.RowKit Go.Abs Go.ChangeShapes Go.WideShapes Go.ChangeAt
set_option linter.unusedSimpArgs false
set_option linter.unusedVariables false
set_option maxRecDepth 8000

theorem leaseNumbers_walk (xs : List V) (h : ShAll Go.Proofs.Tryz.prog 8 (#[34, 41] : Array TypeId).toList xs) : Call2 Go.Proofs.Tryz.prog GW 9 xs [] fun r H' => H' = [] ∧ r = .bool true := by
  obtain ⟨x1, r1, h1, ⟨x2, r2, h2, rfl, rfl⟩, rfl⟩ := h
  obtain ⟨l, rfl, hl⟩ := shv_lease h1
  obtain ⟨c, rfl, hc⟩ := shv_cm h2
  exact leaseNumbers_ct GW GW0 GW1 l c hl (okCm_s hc).1 (okCm_s hc).2 []
theorem okCm_u {c : Cm} (h : OkCm c) : ∀ v ∈ c.1.2.2, U64 v.1 := fun v hv => by
  have := (h.1.2.2.2 v hv).1
  exact ⟨this.1, by have := this.2; omega⟩
theorem leaseStays_walk (xs : List V) (h : ShAll Go.Proofs.Tryz.prog 8 (#[34, 41, 41] : Array TypeId).toList xs) : Call2 Go.Proofs.Tryz.prog GW 7 xs [] fun r H' => H' = [] ∧ r = .bool true := by
  obtain ⟨x1, r1, h1, ⟨x2, r2, h2, ⟨x3, r3, h3, rfl, rfl⟩, rfl⟩, rfl⟩ := h
  obtain ⟨l, rfl, hl⟩ := shv_lease h1
  obtain ⟨c, rfl, hc⟩ := shv_cm h2
  obtain ⟨d, rfl, hd⟩ := shv_cm h3
  exact leaseStays_ct GW GW0 GW1 l c d hl (okCm_s hc).1 (okCm_s hc).2 (okCm_s hd).1 (okCm_s hd).2 (okCm_u hd) []
end Go.Abs.Sig
