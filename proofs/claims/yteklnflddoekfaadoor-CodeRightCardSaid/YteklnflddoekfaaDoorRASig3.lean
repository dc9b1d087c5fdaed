/- The walks of some functions: what they compute. -/
import Derived.Test.YteklnflddoekfaaDoorRASig2
namespace Go.Abs.Sig
open Go.RowKit Go.Abs
set_option linter.unusedSimpArgs false
set_option linter.unusedVariables false
set_option maxRecDepth 8000
attribute [local irreducible] StCall StYield WPc Weak IterOf Call2

theorem find_ct' (G : Nat → Option (List V)) (g : FuncId) (caps : List V) (p : Row' → Bool) (H : Heap) (hcls : ∀ c, heapCls H c = false) (hcaps : ∀ v ∈ caps, VW H.length v v ∧ v.strip = v)
    (hg : ∀ r ∈ tab, Call2 Go.Proofs.Tryd.prog G g ([.agg (rcells r)] ++ caps) H fun v H' => H' = H ∧ v = .bool (p r)) :
    Call2 Go.Proofs.Tryd.prog G 77 [.fn (.func g) [] caps] H fun v H' => H' = H ∧ v = .tup [.agg (rcells ((tab.find? p).getD zrow)), .bool (tab.find? p).isSome] :=
  (find_ct G g caps p H hcls hcaps hg).mono fun r H' h => ⟨h.1, by rw [h.2]; cases tab.find? p <;> rfl⟩

/-- The row of a class and an id. -/
def pAt (c i : Int) (r : Row') : Bool := decide (r.1 = c) && decide (r.2.1 = i)
def rowAt (c i : Int) : Row' := (tab.find? (pAt c i)).getD zrow
def isAt (c i : Int) : Bool := (tab.find? (pAt c i)).isSome

theorem at1_ct (G : Nat → Option (List V)) (c i : Int) (r : Row') :
    Call2 Go.Proofs.Tryd.prog G 78 [.agg (rcells r), .ptr 0 0, .ptr 1 0] [some (.cells 3 [.int .i64 c]), some (.cells 3 [.int .i64 i]), some (.cells 100 (rcells zrow))]
      fun v H' => H' = [some (.cells 3 [.int .i64 c]), some (.cells 3 [.int .i64 i]), some (.cells 100 (rcells zrow))] ∧ v = .bool (pAt c i r) := by
  refine Call2.inScope ⟨_, Go.Proofs.Tryd.func78, rfl, by decide⟩ fun hs => ?_
  refine Call2.cut ?_
  refine stCall2 Go.Proofs.Tryd.func78 rfl (by decide) ?_
  conv => whnf
  refine ⟨_, Cut.app (X := [some (.cells 100 (rcells r))]) hs rfl, .im _, rfl, ?_⟩
  simp [pAt, V.strip]

theorem at_ct0 (G : Nat → Option (List V)) (c i : Int) : Call2 Go.Proofs.Tryd.prog G 59 [.int .i64 c, .int .i64 i] [] fun v _ => v = .tup [.agg (rcells (rowAt c i)), .bool (isAt c i)] := by
  refine stCall2 Go.Proofs.Tryd.func59 rfl (by decide) ?_
  conv => whnf
  refine (find_ct' G 78 [.ptr 0 0, .ptr 1 0] (pAt c i) [some (.cells 3 [.int .i64 c]), some (.cells 3 [.int .i64 i]), some (.cells 100 (rcells zrow))] (fun _ => rfl) ?_ fun r _ => at1_ct G c i r).mono ?_
  · intro v hv
    simp only [List.mem_cons, List.not_mem_nil, or_false] at hv
    rcases hv with rfl | rfl
    · exact ⟨.ptr _ _ (by simp), rfl⟩
    · exact ⟨.ptr _ _ (by simp), rfl⟩
  intro r0 H0 h
  obtain ⟨h1, h2⟩ := h
  rw [h1, h2]
  conv => whnf
  rfl

theorem int_free {vs : List Int} : ∀ v ∈ vs.map (V.int .i64), v.Free := fun v hv => by
  obtain ⟨n, _, rfl⟩ := List.mem_map.1 hv
  exact .im _

theorem at_ct (G : Nat → Option (List V)) (c i : Int) (H : Heap) : Call2 Go.Proofs.Tryd.prog G 59 [.int .i64 c, .int .i64 i] H fun v H' => H' = H ∧ v = .tup [.agg (rcells (rowAt c i)), .bool (isAt c i)] :=
  Call2.free (int_free (vs := [c, i])) ((at_ct0 G c i).mono fun r _ h => ⟨by
    rw [h]
    exact .tup _ fun v hv => by
      simp only [List.mem_cons, List.not_mem_nil, or_false] at hv
      rcases hv with rfl | rfl
      · exact rcells_free _
      · exact .im _, h⟩) H

theorem of_ct (G : Nat → Option (List V)) (c i : Int) (H : Heap) : Call2 Go.Proofs.Tryd.prog G 35 [.int .i64 c, .int .i64 i] H fun v H' => H' = H ∧ v = .tup [.str (rowAt c i).2.2.1, .bool (isAt c i)] := by
  refine Call2.free (int_free (vs := [c, i])) ?_ H
  refine stCall2 Go.Proofs.Tryd.func35 rfl (by decide) ?_
  conv => whnf
  refine (at_ct G c i _).mono fun r0 H0 h => ?_
  obtain ⟨h1, h2⟩ := h
  rw [h1, h2]
  conv => whnf
  exact ⟨free_tup2 (.str _) (.im _), rfl⟩

def content (c i : Int) : Bool := decide (c = 60) && (decide (i = 40) || decide (i = 50) || decide (i = 60) || decide (i = 71))

/-- Who asks. -/
def pAsks (c i : Int) (r : Row') : Bool := decide (i ≠ 0) && decide (r.1 = c) && (decide (r.2.2.2.2.1 = i) || decide (r.2.2.2.2.2 = i))
def asks (c i : Int) : Int := ((tab.find? (pAsks c i)).getD zrow).2.1


end Go.Abs.Sig
