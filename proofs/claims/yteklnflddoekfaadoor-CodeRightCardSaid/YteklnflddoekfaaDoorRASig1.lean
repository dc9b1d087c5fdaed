/- The walks of some functions: what they compute. -/
import Derived.Test.YteklnflddoekfaaDoorAbsEv4
import Derived.Test.YteklnflddoekfaaDoorProg
namespace Go.Abs.Sig
open Go.RowKit Go.Abs
set_option linter.unusedSimpArgs false
set_option linter.unusedVariables false
set_option maxRecDepth 8000
attribute [local irreducible] StCall StYield WPc Weak IterOf

structure Row where
  c : Int
  i : Int
  s : List UInt8
  sd : Int
  r0 : Int
  r1 : Int

def tab : List (Int × Int × List UInt8 × Int × Int × Int) := [
  (10, 10, [111, 111, 84, 76, 76], 2, 11, 0),
  (10, 11, [84, 83, 76, 83], 1, 0, 0),
  (10, 20, [76], 2, 21, 0),
  (10, 21, [76], 1, 0, 0),
  (10, 30, [115, 108, 115], 2, 31, 0),
  (10, 31, [115, 108, 115], 1, 0, 0),
  (10, 40, [83, 83, 98], 1, 41, 0),
  (10, 41, [83], 2, 0, 0),
  (10, 50, [115, 83, 115, 115], 3, 51, 0),
  (10, 51, [], 3, 0, 0),
  (10, 60, [83], 2, 0, 0),
  (10, 61, [], 2, 0, 0),
  (20, 10, [83], 1, 11, 0),
  (20, 11, [76], 2, 0, 0),
  (20, 20, [98], 3, 21, 0),
  (20, 21, [98], 3, 0, 0),
  (20, 40, [115, 83, 115, 115], 3, 41, 0),
  (20, 41, [], 3, 0, 0),
  (40, 10, [115, 83, 83, 98, 98, 98, 98, 98, 84], 1, 11, 0),
  (40, 11, [], 2, 0, 0),
  (40, 20, [115, 83, 98, 98], 1, 21, 0),
  (40, 21, [], 2, 0, 0),
  (50, 10, [115, 83, 98, 98, 98, 98, 98, 84], 1, 11, 0),
  (50, 11, [83, 108, 108], 2, 0, 0),
  (50, 20, [115, 83, 83, 83, 98, 84], 1, 21, 0),
  (50, 21, [], 2, 0, 0),
  (50, 30, [115, 83, 98], 1, 31, 0),
  (50, 31, [108], 2, 0, 0),
  (50, 40, [115, 83, 98, 98, 98], 1, 41, 0),
  (50, 41, [108], 2, 0, 0),
  (50, 50, [115, 83, 83, 83, 84], 1, 51, 0),
  (50, 51, [], 2, 0, 0),
  (60, 10, [108, 115, 98], 1, 11, 0),
  (60, 11, [], 2, 0, 0),
  (60, 20, [115, 83, 83, 98, 98, 98, 98, 84], 1, 21, 0),
  (60, 21, [83], 2, 0, 0),
  (60, 30, [83, 98], 1, 31, 0),
  (60, 31, [83], 2, 0, 0),
  (60, 40, [115, 83, 83, 98, 98], 1, 0, 0),
  (60, 50, [115, 83, 83, 83], 2, 0, 0),
  (60, 60, [83, 113, 98, 83, 83], 2, 0, 0),
  (60, 70, [115, 83, 98], 1, 71, 72),
  (60, 71, [113, 98, 83, 83, 108], 2, 0, 0),
  (60, 72, [83], 2, 0, 0),
  (60, 80, [113, 98], 3, 0, 0),
  (60, 90, [113, 98], 1, 0, 0),
  (60, 100, [98], 1, 0, 0),
  (60, 110, [98], 1, 111, 0),
  (60, 111, [], 2, 0, 0),
  (60, 120, [113, 98, 98], 3, 0, 0),
  (85, 10, [98], 1, 11, 0),
  (85, 11, [], 2, 0, 0),
  (90, 10, [], 1, 11, 0),
  (90, 11, [], 2, 0, 0),
  (90, 20, [], 1, 21, 0),
  (90, 21, [], 2, 0, 0),
  (90, 30, [], 1, 31, 0),
  (90, 31, [], 2, 0, 0)]

def rcells (r : Int × Int × List UInt8 × Int × Int × Int) : List V := [.int .i64 r.1, .int .i64 r.2.1, .str r.2.2.1, .int .i64 r.2.2.2.1, .int .i64 r.2.2.2.2.1, .int .i64 r.2.2.2.2.2]

def rowsV : List V := (tab.map rcells).flatten


set_option maxRecDepth 100000 in
theorem rows_ct0 (G : Nat → Option (List V)) : Call2 Go.Proofs.Tryd.prog G 95 [] [] fun r H' => r = .agg rowsV := by
  refine stCall2 Go.Proofs.Tryd.func95 rfl (by decide) ?_
  conv => whnf
  rfl

theorem rows_free : (V.agg rowsV).Free := .agg _ fun v hv => by
  unfold rowsV at hv
  rw [List.mem_flatten] at hv
  obtain ⟨l, hl, hv⟩ := hv
  rw [List.mem_map] at hl
  obtain ⟨r, _, rfl⟩ := hl
  simp only [rcells, List.mem_cons, List.not_mem_nil, or_false] at hv
  rcases hv with rfl | rfl | rfl | rfl | rfl | rfl
  · exact .im _
  · exact .im _
  · exact .str _
  · exact .im _
  · exact .im _
  · exact .im _

theorem rows_ct (G : Nat → Option (List V)) (H : Heap) : Call2 Go.Proofs.Tryd.prog G 95 [] H fun r H' => H' = H ∧ r = .agg rowsV :=
  Call2.free (fun v hv => by cases hv) ((rows_ct0 G).mono fun r H' h => ⟨h ▸ rows_free, h⟩) H

theorem rows_drop (i : Nat) (r) (h : tab[i]? = some r) : ∃ rest, rowsV.drop (i * 6) = rcells r ++ rest := by
  have gen : ∀ (t : List (Int × Int × List UInt8 × Int × Int × Int)) (i : Nat) (r), t[i]? = some r → ∃ rest, ((t.map rcells).flatten).drop (i * 6) = rcells r ++ rest := by
    intro t
    induction t with
    | nil => intro i r h; simp at h
    | cons x t ih =>
      intro i r h
      cases i with
      | zero =>
        simp only [List.getElem?_cons_zero, Option.some.injEq] at h
        subst h
        exact ⟨(t.map rcells).flatten, by simp⟩
      | succ i =>
        obtain ⟨rest, hr⟩ := ih i r (by simpa using h)
        refine ⟨rest, ?_⟩
        rw [← hr]
        have : (i + 1) * 6 = (rcells x).length + i * 6 := by simp [rcells]; omega
        rw [List.map_cons, List.flatten_cons, this, List.drop_append]
        simp
  exact gen tab i r h

theorem tab_length : tab.length = 58 := rfl

theorem rcells_agg (n : Nat) (r) : VW n (.agg (rcells r)) (.agg (rcells r)) := .agg _ _ rfl fun j v v' h1 h2 => by
  rw [h1] at h2
  cases h2
  have := List.mem_of_getElem? h1
  simp only [rcells, List.mem_cons, List.not_mem_nil, or_false] at this
  rcases this with rfl | rfl | rfl | rfl | rfl | rfl
  · exact .im _
  · exact .im _
  · exact .str _
  · exact .im _
  · exact .im _
  · exact .im _

theorem methods1_ct (G : Nat → Option (List V)) : IterOf Go.Proofs.Tryd.prog G 94 [] [] (tab.map fun r => [V.agg (rcells r)]) fun _ => True := by
  refine IterOf.mk fun id n Inv Fin H hI hF hy hend h0 hs => ?_
  obtain ⟨hn, hid, _⟩ := hI 0 H h0
  refine StCall.cut ?_
  refine (stCall2 Go.Proofs.Tryd.func94 rfl (by decide) ?_).2
  conv => whnf
  refine (rows_ct G H).mono fun r0 H0 h => ?_
  obtain ⟨h1, h2⟩ := h
  rw [h1, h2]
  conv => whnf
  intro hw
  refine wpc_loop2 (fun m s1 => ∃ i H', m = 58 - i ∧ i ≤ 58 ∧ Inv i H' ∧ Scoped H' ∧ s1 = headS 13 [.yld id, .bad, .bad, .bad, .agg rowsV, .int .i64 (i : Int), .bad, .bad, .bad, .bad, .bad, .bad, .bad] H' [] none) 58
    (headS 13 [.yld id, .bad, .bad, .bad, .agg rowsV, .int .i64 0, .bad, .bad, .bad, .bad, .bad, .bad, .bad] H [] none) ?_ ⟨0, H, rfl, by omega, h0, hs, rfl⟩ ?_ ?_
  · refine weak2 hw rfl ?_ hs.bws (fun id hid => by cases hid) rfl (fun id hid => by cases hid)
    conv => whnf
    refine ⟨.yld _ (by omega), ?_⟩
    conv => whnf
    refine ⟨.free rows_free, ?_⟩
    conv => whnf
    refine ⟨.int rfl, ?_⟩
    conv => whnf
    trivial
  · rintro m s1 ⟨i, H', rfl, hi, hI', hs', rfl⟩
    refine ⟨⟨Nat.le_refl 13, fun x hx => by cases hx⟩, rfl, ?_, rfl⟩
    show H.length ≤ H'.length
    rw [(hI i H' hI').1, ← hn]
    exact Nat.le_refl _
  · rintro m s1 ⟨i, H', rfl, hi, hI', hs', rfl⟩
    have hn' := (hI i H' hI').1
    conv => whnf
    refine br_intro (fun hlt => ?_) (fun hge => ?_)
    · simp only [decide_eq_true_eq] at hlt
      have hi58 : i < 58 := by omega
      obtain ⟨r, hr⟩ : ∃ r, tab[i]? = some r := ⟨tab[i], List.getElem?_eq_getElem (by rw [tab_length]; exact hi58)⟩
      obtain ⟨rest, hrest⟩ := rows_drop i r hr
      conv => whnf
      refine grd_intro (by simp; omega) ?_
      refine evLoadCells2_congr (vs' := rcells r ++ rest) hrest ?_
      conv => whnf
      try simp only [List.append_assoc, List.cons_append, List.nil_append, List.length_append, List.length_cons, List.length_nil, Nat.zero_add, Nat.add_assoc, Nat.reduceAdd, ga0, ga1, ga2, ga3, ga4, ga5, sa0, sa1, sa2, sa3, sa4, sa5, S2.setH_H, List.all_cons, List.all_nil, isDefd, nodupB, List.any_nil, Bool.and_true, Bool.not_false, List.foldl_cons, List.foldl_nil]
      conv => whnf
      try simp only [List.append_assoc, List.cons_append, List.nil_append, List.length_append, List.length_cons, List.length_nil, Nat.zero_add, Nat.add_assoc, Nat.reduceAdd, ga0, ga1, ga2, ga3, ga4, ga5, sa0, sa1, sa2, sa3, sa4, sa5, S2.setH_H, List.all_cons, List.all_nil, isDefd, nodupB, List.any_nil, Bool.and_true, Bool.not_false, List.foldl_cons, List.foldl_nil]
      conv => whnf
      have hx : (tab.map fun r => [V.agg (rcells r)])[i]? = some [V.agg (rcells r)] := by rw [List.getElem?_map, hr]; rfl
      refine ((hy i _ H' hx hI' hs').frame [some (.cells 100 (rcells r))] hs' ?_ ?_ ).mono ?_
      · intro v hv
        simp only [List.mem_cons, List.not_mem_nil, or_false] at hv
        subst hv
        exact ⟨rcells_agg _ r, rfl⟩
      · intro c hc
        simp [heapCls, Blk.hasCls, V.hasCls, rcells] at hc
      · rintro r1 H1 ⟨H3, rfl, hl3, hs3, h5⟩
        rcases h5 with ⟨rfl, h6⟩ | ⟨rfl, h6⟩
        · conv => whnf
          intro hw2
          refine ⟨58 - (i + 1), headS 13 [.yld id, .bad, .bad, .bad, .agg rowsV, .int .i64 ((i + 1 : Nat) : Int), .bad, .bad, .bad, .bad, .bad, .bad, .bad] H3 [] none, by omega, ?_, i + 1, H3, rfl, by omega, h6, hs3, rfl⟩
          refine weak2 hw2 rfl ?_ (bws_app hs3) (fun id hid => by cases hid) rfl (fun id hid => by cases hid)
          conv => whnf
          refine ⟨.yld _ (by omega), ?_⟩
          conv => whnf
          refine ⟨.free rows_free, ?_⟩
          conv => whnf
          refine ⟨.int ?_, ?_⟩
          · rw [wrap_i64 (by omega) (by omega)]
            rfl
          conv => whnf
          trivial
        · conv => whnf
          exact ⟨H3, .app hs3 (by omega), .unit _, h6⟩
    · simp only [decide_eq_false_iff_not] at hge
      have hi58 : i = 58 := by omega
      subst hi58
      conv => whnf
      exact ⟨H', Cut.self (H1 := H') hs' (by omega), .unit _, hend H' hI'⟩


end Go.Abs.Sig
