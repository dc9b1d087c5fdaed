/- The walks of some functions: what they compute. -/
import Derived.Test.YteklnflddoekfaaDoorRASig14
namespace Go.Abs.Sig
open Go.RowKit Go.Abs
set_option linter.unusedSimpArgs false
set_option linter.unusedVariables false
set_option maxRecDepth 8000
attribute [local irreducible] StCall StYield WPc Weak IterOf Call2

abbrev Ent := Int × Int × List UInt8 × Bool
def ents : List Ent := [
  (6, 501, [70, 82, 65, 77, 69, 95, 69, 82, 82, 79, 82], true),
  (7, 502, [83, 89, 78, 84, 65, 88, 95, 69, 82, 82, 79, 82], true),
  (8, 503, [67, 79, 77, 77, 65, 78, 68, 95, 73, 78, 86, 65, 76, 73, 68], true),
  (9, 504, [67, 72, 65, 78, 78, 69, 76, 95, 69, 82, 82, 79, 82], true),
  (10, 505, [85, 78, 69, 88, 80, 69, 67, 84, 69, 68, 95, 70, 82, 65, 77, 69], true),
  (12, 506, [82, 69, 83, 79, 85, 82, 67, 69, 95, 69, 82, 82, 79, 82], true),
  (14, 530, [78, 79, 84, 95, 65, 76, 76, 79, 87, 69, 68], true),
  (16, 320, [67, 79, 78, 78, 69, 67, 84, 73, 79, 78, 95, 70, 79, 82, 67, 69, 68], true),
  (4, 311, [67, 79, 78, 84, 69, 78, 84, 95, 84, 79, 79, 95, 76, 65, 82, 71, 69], false),
  (11, 404, [78, 79, 84, 95, 70, 79, 85, 78, 68], false),
  (13, 406, [80, 82, 69, 67, 79, 78, 68, 73, 84, 73, 79, 78, 95, 70, 65, 73, 76, 69, 68], false),
  (0, 200, [82, 69, 80, 76, 89, 95, 83, 85, 67, 67, 69, 83, 83], true)]
def zent : Ent := (0, 541, [73, 78, 84, 69, 82, 78, 65, 76, 95, 69, 82, 82, 79, 82], true)
def ecells (r : Ent) : List V := [.int .i64 r.1, .int .i64 r.2.1, .str r.2.2.1, .bool r.2.2.2]
def entsV : List V := (ents.map ecells).flatten
/-- The package variables: entries. -/
def GC : Nat → Option (List V)
  | 0 => some entsV
  | _ => none

theorem ents_length : ents.length = 12 := rfl
theorem ents_drop (i : Nat) (r) (h : ents[i]? = some r) : ∃ rest, entsV.drop (i * 4) = ecells r ++ rest := by
  have gen : ∀ (l : List Ent) (i : Nat) (r : Ent), l[i]? = some r → ∃ rest, ((l.map ecells).flatten).drop (i * 4) = ecells r ++ rest := by
    intro l
    induction l with
    | nil => intro i r h; simp at h
    | cons x l ih =>
      intro i r h
      cases i with
      | zero =>
        simp at h
        subst h
        exact ⟨(l.map ecells).flatten, by simp⟩
      | succ i =>
        obtain ⟨rest, hr⟩ := ih i r (by simpa using h)
        refine ⟨rest, ?_⟩
        rw [← hr, List.map_cons, List.flatten_cons, show (i + 1) * 4 = (ecells x).length + i * 4 by show _ = 4 + _; omega, ← List.drop_drop, List.drop_left]
  exact gen ents i r h
theorem ecells_free' (r : Ent) : ∀ v ∈ ecells r, v.Free := fun v hv => by
  simp only [ecells, List.mem_cons, List.not_mem_nil, or_false] at hv
  rcases hv with rfl | rfl | rfl | rfl
  · exact .im _
  · exact .im _
  · exact .str _
  · exact .im _
theorem ecells_free (r : Ent) : (V.agg (ecells r)).Free := .agg _ (ecells_free' r)

def efS (g : FuncId) (t : TypeId) (x : Int) (j : Nat) : S2 := headS 18 ([.fn (.func g) [] [.ptr 0 0], .bad, .ptr 1 0, .bad, .bad, .int .i64 (j : Int)] ++ List.replicate 12 .bad) [some (.cells t [.int .i64 x]), some (.cells 70 (ecells (0, 0, [], false)))] [] none

theorem efind_ct (g : FuncId) (t : TypeId) (x : Int) (p : Ent → Bool)
    (hg : ∀ r ∈ ents, Call2 Go.Proofs.Tryd.prog GC g ([.agg (ecells r)] ++ [.ptr 0 0]) [some (.cells t [.int .i64 x])] fun v H' => H' = [some (.cells t [.int .i64 x])] ∧ v = .bool (p r)) :
    Call2 Go.Proofs.Tryd.prog GC 37 [.fn (.func g) [] [.ptr 0 0]] [some (.cells t [.int .i64 x])] fun v H' => H' = [some (.cells t [.int .i64 x])] ∧ v = .tup [.agg (ecells ((ents.find? p).getD zent)), .bool (ents.find? p).isSome] := by
  refine Call2.inScope ⟨_, Go.Proofs.Tryd.func37, rfl, by decide⟩ fun hs => ?_
  refine Call2.cut ?_
  refine stCall2 Go.Proofs.Tryd.func37 rfl (by decide) ?_
  conv => whnf
  intro hw
  refine wpc_loop2 (fun m s1 => ∃ j : Nat, j ≤ 12 ∧ m = 12 - j ∧ s1 = efS g t x j ∧ ∀ r ∈ ents.take j, p r = false) 12 (efS g t x 0) ?_ ⟨0, by omega, rfl, rfl, fun r hr => by cases hr⟩ ?_ ?_
  · refine weak2 hw rfl ⟨.fn _ _ _ (fun i v h => by simp at h) fun i v h => ?_, .ptr _ _ (by simp), .im _, trivial⟩ ?_ (fun id hid => by cases hid) rfl (fun id hid => by cases hid)
    · have h := List.mem_of_getElem? h
      simp only [List.mem_cons, List.not_mem_nil, or_false] at h
      subst h
      exact .ptr _ _ (by simp)
    · exact .cons (.cells _ _ _ (.cons (.im _) .nil)) (.cons (.free (ecells_free' (0, 0, [], false))) (.nil _))
  · rintro m s1 ⟨j, hj, rfl, rfl, _⟩
    exact ⟨⟨Nat.le_refl 18, fun x hx => by cases hx⟩, rfl, Nat.le_refl 2, rfl⟩
  · rintro m s1 ⟨j, hj, rfl, rfl, hall⟩
    conv => whnf
    refine br_intro (fun hlt => ?_) (fun hge => ?_)
    · have hlt' : decide ((j : Int) < 12) = true := hlt
      rw [decide_eq_true_eq] at hlt'
      have hj2 : j < 12 := by omega
      obtain ⟨r, hr⟩ : ∃ r, ents[j]? = some r := ⟨_, List.getElem?_eq_getElem (by rw [ents_length]; exact hj2)⟩
      obtain ⟨rest, hrest⟩ := ents_drop j r hr
      have hwj : IntKind.i64.wrap ((j : Int) + 1) = ((j + 1 : Nat) : Int) := by rw [wrap_i64 (by omega) (by omega)]; rfl
      have hgrd : (decide (0 ≤ (j : Int)) && decide ((j : Int) < ((12 : Nat) : Int))) = true := by
        rw [Bool.and_eq_true, decide_eq_true_eq, decide_eq_true_eq]; omega
      conv => whnf
      refine grd_intro hgrd ?_
      generalize hX : List.drop _ entsV = X
      obtain rfl : X = ecells r ++ rest := by rw [← hX]; exact hrest
      conv => whnf
      refine ((hg r (List.mem_of_getElem? hr)).frame' [some (.cells 70 (ecells (0, 0, [], false)))] hs ?_ ?_).mono ?_
      · intro v hv
        simp only [List.cons_append, List.nil_append, List.mem_cons, List.not_mem_nil, or_false] at hv
        rcases hv with rfl | rfl
        · exact ⟨.free (ecells_free r), rfl⟩
        · exact ⟨.ptr _ _ (by simp), rfl⟩
      · exact fun c _ => rfl
      rintro v1 H1 ⟨rfl, rfl⟩
      conv => whnf
      refine br_intro (fun hpr => ?_) (fun hpr => ?_)
      · conv => whnf
        refine grd_intro hgrd ?_
        generalize hX : List.drop _ entsV = X
        obtain rfl : X = ecells r ++ rest := by rw [← hX]; exact hrest
        conv => whnf
        rw [find_first p ents j r hr hpr hall]
        have hf : (V.tup [V.agg (ecells r), V.bool true]).Free := .tup _ fun v hv => by
          simp only [List.mem_cons, List.not_mem_nil, or_false] at hv
          rcases hv with rfl | rfl
          · exact ecells_free r
          · exact .im _
        exact ⟨_, Cut.app hs rfl, .free hf, rfl, rfl⟩
      · conv => whnf
        intro hw2
        refine ⟨12 - (j + 1), efS g t x (j + 1), by omega, ?_, j + 1, by omega, rfl, rfl, ?_⟩
        · refine weak2 hw2 rfl ⟨.fn _ _ _ (fun i v h => by simp at h) fun i v h => ?_, .ptr _ _ (by simp), .int hwj, trivial⟩ ?_ (fun id hid => by cases hid) rfl (fun id hid => by cases hid)
          · have h := List.mem_of_getElem? h
            simp only [List.mem_cons, List.not_mem_nil, or_false] at h
            subst h
            exact .ptr _ _ (by simp)
          · exact .cons (.cells _ _ _ (.cons (.im _) .nil)) (.cons (.free (ecells_free' (0, 0, [], false))) (.nil _))
        · intro y hy
          rw [List.take_add_one, hr, List.mem_append] at hy
          rcases hy with hy | hy
          · exact hall y hy
          · simp at hy; subst hy; exact hpr
    · rw [decide_eq_false_iff_not] at hge
      obtain rfl : j = 12 := by omega
      have hn : ents.find? p = none := find_none' _ _ hall
      rw [hn]
      conv => whnf
      have hf : (V.tup [V.agg (ecells zent), V.bool false]).Free := .tup _ fun v hv => by
        simp only [List.mem_cons, List.not_mem_nil, or_false] at hv
        rcases hv with rfl | rfl
        · exact ecells_free zent
        · exact .im _
      exact ⟨_, Cut.app hs rfl, .free hf, rfl, rfl⟩

def pE (e : Int) (r : Ent) : Bool := decide (r.1 = e)
def pC (c : Int) (r : Ent) : Bool := decide (r.2.1 = c)
def entE (e : Int) : Ent := (ents.find? (pE e)).getD zent
def entC (c : Int) : Ent := (ents.find? (pC c)).getD zent

theorem cof1_ct (G : Nat → Option (List V)) (e : Int) (r : Ent) :
    Call2 Go.Proofs.Tryd.prog G 38 ([.agg (ecells r)] ++ [.ptr 0 0]) [some (.cells 22 [.int .i64 e])] fun v H' => H' = [some (.cells 22 [.int .i64 e])] ∧ v = .bool (pE e r) := by
  refine Call2.inScope ⟨_, Go.Proofs.Tryd.func38, rfl, by decide⟩ fun hs => ?_
  refine Call2.cut ?_
  refine stCall2 Go.Proofs.Tryd.func38 rfl (by decide) ?_
  conv => whnf
  exact ⟨_, Cut.app (X := [some (.cells 70 (ecells r))]) hs rfl, .im _, rfl, rfl⟩
theorem chard1_ct (G : Nat → Option (List V)) (c : Int) (r : Ent) :
    Call2 Go.Proofs.Tryd.prog G 41 ([.agg (ecells r)] ++ [.ptr 0 0]) [some (.cells 3 [.int .i64 c])] fun v H' => H' = [some (.cells 3 [.int .i64 c])] ∧ v = .bool (pC c r) := by
  refine Call2.inScope ⟨_, Go.Proofs.Tryd.func41, rfl, by decide⟩ fun hs => ?_
  refine Call2.cut ?_
  refine stCall2 Go.Proofs.Tryd.func41 rfl (by decide) ?_
  conv => whnf
  exact ⟨_, Cut.app (X := [some (.cells 70 (ecells r))]) hs rfl, .im _, rfl, rfl⟩

theorem cof_ct (e : Int) (H : Heap) : Call2 Go.Proofs.Tryd.prog GC 17 [.int .i64 e] H fun v H' => H' = H ∧ v = .tup [.int .i64 (entE e).2.1, .str (entE e).2.2.1] := by
  refine Call2.free (int_free (vs := [e])) ?_ H
  refine stCall2 Go.Proofs.Tryd.func17 rfl (by decide) ?_
  conv => whnf
  refine Call2.mono (efind_ct 38 22 e (pE e) fun r _ => cof1_ct GC e r) fun r0 H0 h => ?_
  obtain ⟨h1, h2⟩ := h
  rw [h1, h2]
  clear h1 h2 r0 H0
  conv => whnf
  intro hw
  refine wpc_draw2 6 (by rfl) (by decide) (by decide) hw ?_
  conv => whnf
  exact ⟨free_tup2 (.im _) (.str _), rfl⟩
theorem chard_ct (c : Int) (H : Heap) : Call2 Go.Proofs.Tryd.prog GC 21 [.int .i64 c] H fun v H' => H' = H ∧ v = .bool (entC c).2.2.2 := by
  refine Call2.free (int_free (vs := [c])) ?_ H
  refine stCall2 Go.Proofs.Tryd.func21 rfl (by decide) ?_
  conv => whnf
  refine Call2.mono (efind_ct 41 3 c (pC c) fun r _ => chard1_ct GC c r) fun r0 H0 h => ?_
  obtain ⟨h1, h2⟩ := h
  rw [h1, h2]
  clear h1 h2 r0 H0
  conv => whnf
  exact ⟨.im _, rfl⟩

end Go.Abs.Sig
