/- The walks of some functions: what they compute. -/
import Derived.Test.YteklnflddoekfaaDoorRCode1
namespace Go.Abs.Sig
open Go.RowKit Go.Abs
set_option linter.unusedSimpArgs false
set_option linter.unusedVariables false
set_option maxRecDepth 8000
attribute [local irreducible] StCall StYield WPc Weak IterOf Call2

/-- Values of methods, and methods. -/
abbrev Val' := Int × List UInt8
abbrev Met := Int × Int × List Val'
def vals (l : List Val') : List (List V) := l.map fun v => [.int .u64 v.1, .str v.2]
def mcells (m : Met) : List V := [.int .i64 m.1, .int .i64 m.2.1, .dat 2 (vals m.2.2) .no]
theorem mcells_free (m : Met) : (V.agg (mcells m)).Free := .agg _ fun v hv => by
  simp only [mcells, List.mem_cons, List.not_mem_nil, or_false] at hv
  rcases hv with rfl | rfl | rfl
  · exact .im _
  · exact .im _
  · exact .dat _ _ _ (by simp)

theorem vw_met {n : Nat} {a b : Int} {rows : List (List V)} {fl : Fl} (l : List Val') (h : rows = vals l) : VW n (.agg [.int .i64 a, .int .i64 b, .dat 2 rows fl]) (.agg (mcells (a, b, l))) := by
  subst h
  refine .agg _ _ rfl fun j v v' h1 h2 => ?_
  match j with
  | 0 => cases h1; cases h2; exact .im _
  | 1 => cases h1; cases h2; exact .im _
  | 2 => cases h1; cases h2; exact .no _ _ _
  | j + 3 => simp at h1
def u64 (n : Int) : Int := IntKind.u64.wrap n
def closeArgs (e c i : Int) : List Val' := [(u64 (entE e).2.1, []), (0, (entE e).2.2.1), (u64 (if isAt c i then c else 0), []), (u64 (if isAt c i then i else 0), [])]
def closeM (e c i : Int) : Met := if (entC (entE e).2.1).2.2.2 then (10, 50, closeArgs e c i) else (20, 40, closeArgs e c i)


theorem close_ct (e c i : Int) (H : Heap) : Call2 Go.Proofs.Tryd.prog GC 15 [.int .i64 e, .int .i64 c, .int .i64 i] H fun v H' => H' = H ∧ v = .agg (mcells (closeM e c i)) := by
  refine Call2.free (int_free (vs := [e, c, i])) ?_ H
  refine Call2.weakR ?_
  refine stCall2 Go.Proofs.Tryd.func15 rfl (by decide) ?_
  conv => whnf
  refine Call2.mono (cof_ct e _) fun r0 H0 h => ?_
  obtain ⟨h1, h2⟩ := h
  rw [h1, h2]
  clear h1 h2 r0 H0
  conv => whnf
  refine Call2.mono (chard_ct _ _) fun r0 H0 h => ?_
  obtain ⟨h1, h2⟩ := h
  rw [h1, h2]
  clear h1 h2 r0 H0
  conv => whnf
  unfold closeM
  cases hh : (entC (entE e).2.1).2.2.2
  · conv => whnf
    refine Call2.mono (of_ct GC c i _) fun r0 H0 h => ?_
    obtain ⟨h1, h2⟩ := h
    rw [h1, h2]
    clear h1 h2 r0 H0
    conv => whnf
    unfold closeArgs
    cases hi : isAt c i
    · conv => whnf
      exact ⟨_, vw_met [(u64 (entE e).2.1, []), (0, (entE e).2.2.1), (u64 0, []), (u64 0, [])] rfl, mcells_free _, rfl⟩
    · conv => whnf
      exact ⟨_, vw_met [(u64 (entE e).2.1, []), (0, (entE e).2.2.1), (u64 c, []), (u64 i, [])] rfl, mcells_free _, rfl⟩
  · conv => whnf
    refine Call2.mono (of_ct GC c i _) fun r0 H0 h => ?_
    obtain ⟨h1, h2⟩ := h
    rw [h1, h2]
    clear h1 h2 r0 H0
    conv => whnf
    unfold closeArgs
    cases hi : isAt c i
    · conv => whnf
      exact ⟨_, vw_met [(u64 (entE e).2.1, []), (0, (entE e).2.2.1), (u64 0, []), (u64 0, [])] rfl, mcells_free _, rfl⟩
    · conv => whnf
      exact ⟨_, vw_met [(u64 (entE e).2.1, []), (0, (entE e).2.2.1), (u64 c, []), (u64 i, [])] rfl, mcells_free _, rfl⟩

theorem cshown_ct (H : Heap) : Call2 Go.Proofs.Tryd.prog GC 14 [] H fun v H' => H' = H ∧ v = .bool true := by
  refine Call2.free (fun v hv => by cases hv) ?_ H
  refine stCall2 Go.Proofs.Tryd.func14 rfl (by decide) ?_
  conv => whnf
  refine Call2.mono (close_ct 13 60 80 _) fun r0 H0 h => ?_
  obtain ⟨h1, h2⟩ := h
  rw [h1, h2]
  clear h1 h2 r0 H0
  conv => whnf
  refine ⟨.im _, ?_⟩
  show V.bool (bsel true (decide (u64 (if isAt 60 80 = true then 80 else 0) = 80)) false) = V.bool true
  rw [show isAt 60 80 = true from by decide +kernel]
  rfl

theorem closeM_args (e c i : Int) : ∃ a b, closeM e c i = (a, b, closeArgs e c i) := by
  unfold closeM
  split <;> exact ⟨_, _, rfl⟩

theorem named_ct (e c i : Int) (H : Heap) : Call2 Go.Proofs.Tryd.prog GC 3 [.int .i64 e, .int .i64 c, .int .i64 i] H fun v H' => H' = H ∧ v = .bool true := by
  refine Call2.free (int_free (vs := [e, c, i])) ?_ H
  refine stCall2 Go.Proofs.Tryd.func3 rfl (by decide) ?_
  conv => whnf
  refine Call2.mono (cshown_ct _) fun r0 H0 h => ?_
  obtain ⟨h1, h2⟩ := h
  rw [h1, h2]
  clear h1 h2 r0 H0
  conv => whnf
  refine Call2.mono (close_ct e c i _) fun r0 H0 h => ?_
  obtain ⟨h1, h2⟩ := h
  rw [h1, h2]
  clear h1 h2 r0 H0
  conv => whnf
  obtain ⟨a, b, hm⟩ := closeM_args e c i
  rw [hm]
  unfold closeArgs
  cases hi : isAt c i
  · conv => whnf
    refine Call2.mono (rof_ct GC c i _) fun r0 H0 h => ?_
    obtain ⟨h1, h2⟩ := h
    rw [h1, h2]
    clear h1 h2 r0 H0
    conv => whnf
    rw [rof_eq, hi]
    conv => whnf
    exact ⟨.im _, rfl⟩
  · conv => whnf
    refine Call2.mono (rof_ct GC c i _) fun r0 H0 h => ?_
    obtain ⟨h1, h2⟩ := h
    rw [h1, h2]
    clear h1 h2 r0 H0
    conv => whnf
    rw [rof_eq, hi]
    conv => whnf
    refine br_t (by show bsel true (decide (u64 (if true = true then c else 0) = IntKind.u64.wrap c)) false = true; simp [bsel, u64]) ?_
    conv => whnf
    refine ⟨.im _, ?_⟩
    show V.bool (bsel true (decide (u64 (if true = true then i else 0) = IntKind.u64.wrap i)) false) = V.bool true
    simp [bsel, u64]

theorem ents_all : ((zent :: ents).all fun r => (decide (200 ≤ r.2.1) && decide (r.2.1 ≤ 541) && !r.2.2.1.isEmpty) && (zent :: ents).all fun r' => decide (r.2.1 = r'.2.1) == decide (r.2.2.1 = r'.2.2.1)) = true := by decide +kernel
theorem entE_mem (e : Int) : entE e ∈ zent :: ents := by
  unfold entE
  cases h : ents.find? (pE e) with
  | none => exact List.mem_cons_self
  | some r => exact List.mem_cons_of_mem _ (List.mem_of_find?_eq_some h)

theorem once_ct (a b : Int) (H : Heap) : Call2 Go.Proofs.Tryd.prog GC 4 [.int .i64 a, .int .i64 b] H fun v H' => H' = H ∧ v = .bool true := by
  refine Call2.free (int_free (vs := [a, b])) ?_ H
  have hA := List.all_eq_true.1 ents_all _ (entE_mem a)
  simp only [Bool.and_eq_true] at hA
  obtain ⟨⟨⟨h1, h2⟩, h3⟩, h4⟩ := hA
  have h4 := List.all_eq_true.1 h4 _ (entE_mem b)
  refine stCall2 Go.Proofs.Tryd.func4 rfl (by decide) ?_
  conv => whnf
  refine Call2.mono (cshown_ct _) fun r0 H0 h => ?_
  obtain ⟨h1, h2⟩ := h
  rw [h1, h2]
  clear h1 h2 r0 H0
  conv => whnf
  refine Call2.mono (cof_ct a _) fun r0 H0 h => ?_
  obtain ⟨h1, h2⟩ := h
  rw [h1, h2]
  clear h1 h2 r0 H0
  conv => whnf
  refine Call2.mono (cof_ct b _) fun r0 H0 h => ?_
  obtain ⟨h1, h2⟩ := h
  rw [h1, h2]
  clear h1 h2 r0 H0
  conv => whnf
  refine br_t (by show bsel true (decide _ == decide _) false = true; rw [h4]; rfl) ?_
  conv => whnf
  refine br_t (by show bsel true (decide (200 ≤ (entE a).2.1)) false = true; rw [h1]; rfl) ?_
  conv => whnf
  refine br_t (by show bsel true (decide ((entE a).2.1 ≤ 541)) false = true; rw [h2]; rfl) ?_
  conv => whnf
  refine ⟨.im _, ?_⟩
  show V.bool (bsel true (decide ((entE a).2.2.1 ≠ [])) false) = V.bool true
  have : decide ((entE a).2.2.1 ≠ []) = true := by simpa using h3
  rw [this]
  rfl

end Go.Abs.Sig
