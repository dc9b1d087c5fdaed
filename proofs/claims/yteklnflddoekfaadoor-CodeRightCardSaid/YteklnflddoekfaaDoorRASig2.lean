/- The walks of some functions: what they compute. -/
import Derived.Test.YteklnflddoekfaaDoorAbsEv5
import Derived.Test.YteklnflddoekfaaDoorRASig1
namespace Go.Abs.Sig
open Go.RowKit Go.Abs
set_option linter.unusedSimpArgs false
set_option linter.unusedVariables false
set_option maxRecDepth 8000
attribute [local irreducible] StCall StYield WPc Weak IterOf Call2

abbrev Row' := Int × Int × List UInt8 × Int × Int × Int

def zrow : Row' := (0, 0, [], 0, 0, 0)

theorem methods_ct (G : Nat → Option (List V)) (H : Heap) : Call2 Go.Proofs.Tryd.prog G 85 [] H fun r H' => H' = H ∧ r = .fn (.func 94) [] [] := by
  refine stCall2 Go.Proofs.Tryd.func85 rfl (by decide) ?_
  conv => whnf
  exact ⟨rfl, rfl⟩

theorem fnOk29 : fnOk Go.Proofs.Tryd.prog 94 := ⟨_, Go.Proofs.Tryd.func94, rfl, by decide⟩

theorem rcells_free' (r : Row') : ∀ v ∈ rcells r, v.Free := fun v hv => by
  simp only [rcells, List.mem_cons, List.not_mem_nil, or_false] at hv
  rcases hv with rfl | rfl | rfl | rfl | rfl | rfl
  · exact .im _
  · exact .im _
  · exact .str _
  · exact .im _
  · exact .im _
  · exact .im _

theorem rcells_free (r : Row') : (V.agg (rcells r)).Free := .agg _ (rcells_free' r)

theorem find_first {α : Type} (p : α → Bool) : ∀ (l : List α) (i : Nat) (r : α), l[i]? = some r → p r = true → (∀ x ∈ l.take i, p x = false) → l.find? p = some r
  | [], i, r, h, _, _ => by simp at h
  | x :: l, 0, r, h, hp, _ => by
    simp at h
    subst h
    simp [hp]
  | x :: l, i + 1, r, h, hp, hf => by
    have hx : p x = false := hf x (by simp)
    rw [List.find?_cons, hx]
    exact find_first p l i r (by simpa using h) hp fun y hy => hf y (by simp [hy])

theorem find_none' {α : Type} (p : α → Bool) (l : List α) (h : ∀ x ∈ l, p x = false) : l.find? p = none := by
  rw [List.find?_eq_none]
  intro x hx
  simp [h x hx]

theorem find_ct (G : Nat → Option (List V)) (g : FuncId) (caps : List V) (p : Row' → Bool) (H : Heap) (hcls : ∀ c, heapCls H c = false) (hcaps : ∀ v ∈ caps, VW H.length v v ∧ v.strip = v)
    (hg : ∀ r ∈ tab, Call2 Go.Proofs.Tryd.prog G g ([.agg (rcells r)] ++ caps) H fun v H' => H' = H ∧ v = .bool (p r)) :
    Call2 Go.Proofs.Tryd.prog G 77 [.fn (.func g) [] caps] H fun v H' => H' = H ∧ v = match tab.find? p with
      | some r => .tup [.agg (rcells r), .bool true]
      | none => .tup [.agg (rcells zrow), .bool false] := by
  refine Call2.inScope ⟨_, Go.Proofs.Tryd.func77, rfl, by decide⟩ fun hs => ?_
  refine Call2.cut ?_
  refine stCall2 Go.Proofs.Tryd.func77 rfl (by decide) ?_
  conv => whnf
  refine (methods_ct G _).mono fun r0 H0 h => ?_
  obtain ⟨h1, h2⟩ := h
  rw [h1, h2]
  conv => whnf
  intro hw
  have hTl : ∀ x ∈ (tab.map fun r => [V.agg (rcells r)]), x.length = 1 := fun x hx => by
    obtain ⟨r, _, rfl⟩ := List.mem_map.1 hx
    rfl
  have hfn : VW (H.length + 3) (.fn (.func g) [] caps) (.fn (.func g) [] caps) := .fn _ _ _ (fun i v h => by simp at h) fun i v h => ((hcaps v (List.mem_of_getElem? h)).1).mono (by omega)
  refine WPc.weak (σ0 := (headS 12 [.fn (.func g) [] caps, .ptr H.length 0, .ptr (H.length + 1) 0, .ptr (H.length + 2) 0, .bad, .fn (.func 94) [] [], .bad, .bad, .bad, .bad, .bad, .bad] (H ++ [some (.cells 128 [.fn (.func g) [] caps]), some (.cells 100 (rcells zrow)), some (.cells 4 [.bool false])]) [] none).st) ?_ ?_ ?_
  · refine weak2 hw rfl ?_ ?_ (fun id hid => by cases hid) rfl (fun id hid => by cases hid)
    · conv => whnf
      refine ⟨hfn.mono (by simp), ?_⟩
      conv => whnf
      refine ⟨.ptrE rfl (by simp), ?_⟩
      conv => whnf
      refine ⟨.ptrE (by simp) (by simp), ?_⟩
      conv => whnf
      refine ⟨.ptrE (by simp) (by simp), ?_⟩
      conv => whnf
      refine ⟨.free (.fn _ _ _ (fun v h => by cases h) (fun v h => by cases h)), ?_⟩
      conv => whnf
      trivial
    · have hsc : Scoped (H ++ [some (.cells 128 [.fn (.func g) [] caps]), some (.cells 100 (rcells zrow)), some (.cells 4 [.bool false])]) := hs.app fun b hb => by
        simp only [List.mem_cons, Option.some.injEq, List.not_mem_nil, or_false] at hb
        rcases hb with rfl | rfl | rfl
        · exact .cells _ _ _ (.cons hfn .nil)
        · exact .free (rcells_free' zrow)
        · exact .free fun v hv => by
            simp only [List.mem_cons, List.not_mem_nil, or_false] at hv
            subst hv
            exact .im _
      have := hsc.bws
      simp only [List.length_append, List.length_cons, List.length_nil, Nat.zero_add, Nat.reduceAdd] at this
      show BWs (H ++ [_, _, _]).length (H ++ [_] ++ [_] ++ [_]) (H ++ [_, _, _])
      try simp only [List.append_assoc, List.cons_append, List.nil_append, List.length_append, List.length_cons, List.length_nil, Nat.zero_add, Nat.add_assoc, Nat.reduceAdd, ga0, ga1, ga2, ga3, ga4, ga5, sa0, sa1, sa2, sa3, sa4, sa5, S2.setH_H, List.all_cons, List.all_nil, isDefd, nodupB, List.any_nil, Bool.and_true, Bool.not_false, List.foldl_cons, List.foldl_nil]
      exact this
  · show (H ++ [_] ++ [_] ++ [_]).length ≤ (H ++ [_, _, _]).length
    simp
  clear hw h1 h2
  refine wpc_rangeIter2 (methods1_ct G) (Nat.le_refl 12) rfl rfl fnOk29 (fun i H' => H' = H ++ [some (.cells 128 [.fn (.func g) [] caps]), some (.cells 100 (rcells zrow)), some (.cells 4 [.bool false])] ∧ ∀ r ∈ tab.take i, p r = false) ?_ ?_ ?_ hTl ?_ ?_
  · exact ⟨rfl, fun r hr => by simp at hr⟩
  · rintro i H' ⟨rfl, _⟩; rfl
  · rintro i H' _; trivial
  · rintro i x H' hx ⟨rfl, hp⟩ hl hs'
    rw [List.getElem?_map] at hx
    obtain ⟨r, hr, rfl⟩ := Option.map_eq_some_iff.1 hx
    conv => whnf
    unfold loopH
    try simp only [List.append_assoc, List.cons_append, List.nil_append, List.length_append, List.length_cons, List.length_nil, Nat.zero_add, Nat.add_assoc, Nat.reduceAdd, ga0, ga1, ga2, ga3, ga4, ga5, sa0, sa1, sa2, sa3, sa4, sa5, S2.setH_H, List.all_cons, List.all_nil, isDefd, nodupB, List.any_nil, Bool.and_true, Bool.not_false, List.foldl_cons, List.foldl_nil]
    conv => whnf
    refine ⟨trivial, ?_, ?_⟩
    · try simp only [List.append_assoc, List.cons_append, List.nil_append, List.length_append, List.length_cons, List.length_nil, Nat.zero_add, Nat.add_assoc, Nat.reduceAdd, ga0, ga1, ga2, ga3, ga4, ga5, sa0, sa1, sa2, sa3, sa4, sa5, S2.setH_H, List.all_cons, List.all_nil, isDefd, nodupB, List.any_nil, Bool.and_true, Bool.not_false, List.foldl_cons, List.foldl_nil]
    conv => whnf
    try simp only [List.append_assoc, List.cons_append, List.nil_append, List.length_append, List.length_cons, List.length_nil, Nat.zero_add, Nat.add_assoc, Nat.reduceAdd, ga0, ga1, ga2, ga3, ga4, ga5, sa0, sa1, sa2, sa3, sa4, sa5, S2.setH_H, List.all_cons, List.all_nil, isDefd, nodupB, List.any_nil, Bool.and_true, Bool.not_false, List.foldl_cons, List.foldl_nil]
    conv => whnf
    try simp only [List.append_assoc, List.cons_append, List.nil_append, List.length_append, List.length_cons, List.length_nil, Nat.zero_add, Nat.add_assoc, Nat.reduceAdd, ga0, ga1, ga2, ga3, ga4, ga5, sa0, sa1, sa2, sa3, sa4, sa5, S2.setH_H, List.all_cons, List.all_nil, isDefd, nodupB, List.any_nil, Bool.and_true, Bool.not_false, List.foldl_cons, List.foldl_nil]
    conv => whnf
    have hcm : caps.map V.strip = caps := (List.map_congr_left fun v hv => (hcaps v hv).2).trans (List.map_id' caps)
    have hg' : Call2 Go.Proofs.Tryd.prog G g ([.agg (rcells r)] ++ caps.map V.strip) H fun v H' => H' = H ∧ v = .bool (p r) := by
      rw [hcm]
      exact hg r (List.mem_of_getElem? hr)
    refine (hg'.frame' _ hs ?_ ?_).mono ?_
    · intro v hv
      rw [hcm, List.mem_append] at hv
      rcases hv with hv | hv
      · simp only [List.mem_cons, List.not_mem_nil, or_false] at hv
        subst hv
        exact ⟨.free (rcells_free r), rfl⟩
      · exact hcaps v hv
    · exact fun c _ => hcls c
    · rintro v1 H1 ⟨rfl, rfl⟩
      conv => whnf
      refine br_intro (fun hpr => ?_) (fun hpr => ?_)
      · iterate 4 (conv => whnf; try simp only [List.append_assoc, List.cons_append, List.nil_append, List.length_append, List.length_cons, List.length_nil, Nat.zero_add, Nat.add_assoc, Nat.reduceAdd, ga0, ga1, ga2, ga3, ga4, ga5, sa0, sa1, sa2, sa3, sa4, sa5, S2.setH_H, List.all_cons, List.all_nil, isDefd, nodupB, List.any_nil, Bool.and_true, Bool.not_false, List.foldl_cons, List.foldl_nil])
        refine ⟨H ++ [some (.cells 128 [.fn (.func g) [] caps]), some (.cells 100 (rcells r)), some (.cells 4 [.bool true])], [some (.cells 100 (rcells r))], ?_, ?_, ?_, ?_⟩
        · unfold loopH
          try simp only [List.append_assoc, List.cons_append, List.nil_append, List.length_append, List.length_cons, List.length_nil, Nat.zero_add, Nat.add_assoc, Nat.reduceAdd, ga0, ga1, ga2, ga3, ga4, ga5, sa0, sa1, sa2, sa3, sa4, sa5, S2.setH_H, List.all_cons, List.all_nil, isDefd, nodupB, List.any_nil, Bool.and_true, Bool.not_false, List.foldl_cons, List.foldl_nil]
          rfl
        · try simp only [List.append_assoc, List.cons_append, List.nil_append, List.length_append, List.length_cons, List.length_nil, Nat.zero_add, Nat.add_assoc, Nat.reduceAdd, ga0, ga1, ga2, ga3, ga4, ga5, sa0, sa1, sa2, sa3, sa4, sa5, S2.setH_H, List.all_cons, List.all_nil, isDefd, nodupB, List.any_nil, Bool.and_true, Bool.not_false, List.foldl_cons, List.foldl_nil]
        · intro id b hb
          by_cases hid : id < H.length
          · rw [List.getElem?_append_left hid] at hb
            exact .inl (by rw [List.getElem?_append_left hid]; exact hb)
          · right
            rw [List.getElem?_append_right (by omega)] at hb
            have hb := List.mem_of_getElem? hb
            simp only [List.mem_cons, Option.some.injEq, List.not_mem_nil, or_false] at hb
            rcases hb with rfl | rfl | rfl
            · exact .cells _ _ _ (.cons (hfn.mono (by simp)) .nil)
            · exact .free (rcells_free' r)
            · exact .free fun v hv => by
                simp only [List.mem_cons, List.not_mem_nil, or_false] at hv
                subst hv
                exact .im _
        · iterate 4 (conv => whnf; try simp only [List.append_assoc, List.cons_append, List.nil_append, List.length_append, List.length_cons, List.length_nil, Nat.zero_add, Nat.add_assoc, Nat.reduceAdd, ga0, ga1, ga2, ga3, ga4, ga5, sa0, sa1, sa2, sa3, sa4, sa5, S2.setH_H, List.all_cons, List.all_nil, isDefd, nodupB, List.any_nil, Bool.and_true, Bool.not_false, List.foldl_cons, List.foldl_nil])
          have hfind := find_first p tab i r hr hpr hp
          rw [hfind]
          exact ⟨H, Cut.app hs rfl, .free (.tup _ fun v hv => by
            simp only [List.mem_cons, List.not_mem_nil, or_false] at hv
            rcases hv with rfl | rfl
            · exact rcells_free r
            · exact .im _), rfl, rfl⟩
      · iterate 4 (conv => whnf; try simp only [List.append_assoc, List.cons_append, List.nil_append, List.length_append, List.length_cons, List.length_nil, Nat.zero_add, Nat.add_assoc, Nat.reduceAdd, ga0, ga1, ga2, ga3, ga4, ga5, sa0, sa1, sa2, sa3, sa4, sa5, S2.setH_H, List.all_cons, List.all_nil, isDefd, nodupB, List.any_nil, Bool.and_true, Bool.not_false, List.foldl_cons, List.foldl_nil])
        refine ⟨H ++ [some (.cells 128 [.fn (.func g) [] caps]), some (.cells 100 (rcells zrow)), some (.cells 4 [.bool false])], [some (.cells 100 (rcells r))], ?_, ?_, ?_, rfl, ?_⟩
        · unfold loopH
          try simp only [List.append_assoc, List.cons_append, List.nil_append, List.length_append, List.length_cons, List.length_nil, Nat.zero_add, Nat.add_assoc, Nat.reduceAdd, ga0, ga1, ga2, ga3, ga4, ga5, sa0, sa1, sa2, sa3, sa4, sa5, S2.setH_H, List.all_cons, List.all_nil, isDefd, nodupB, List.any_nil, Bool.and_true, Bool.not_false, List.foldl_cons, List.foldl_nil]
          rfl
        · try simp only [List.append_assoc, List.cons_append, List.nil_append, List.length_append, List.length_cons, List.length_nil, Nat.zero_add, Nat.add_assoc, Nat.reduceAdd, ga0, ga1, ga2, ga3, ga4, ga5, sa0, sa1, sa2, sa3, sa4, sa5, S2.setH_H, List.all_cons, List.all_nil, isDefd, nodupB, List.any_nil, Bool.and_true, Bool.not_false, List.foldl_cons, List.foldl_nil]
        · exact fun id b hb => .inl hb
        · intro x hx
          rw [List.take_add_one, hr, List.mem_append] at hx
          rcases hx with hx | hx
          · exact hp x hx
          · simp at hx
            subst hx
            exact hpr
  · rintro H' ⟨rfl, hp⟩
    iterate 5 (conv => whnf; try simp only [List.append_assoc, List.cons_append, List.nil_append, List.length_append, List.length_cons, List.length_nil, Nat.zero_add, Nat.add_assoc, Nat.reduceAdd, ga0, ga1, ga2, ga3, ga4, ga5, sa0, sa1, sa2, sa3, sa4, sa5, S2.setH_H, List.all_cons, List.all_nil, isDefd, nodupB, List.any_nil, Bool.and_true, Bool.not_false, List.foldl_cons, List.foldl_nil])
    have hfind := find_none' p tab fun x hx => hp x (by rw [List.length_map, List.take_length]; exact hx)
    rw [hfind]
    exact ⟨H, Cut.app hs rfl, .free (.tup _ fun v hv => by
      simp only [List.mem_cons, List.not_mem_nil, or_false] at hv
      rcases hv with rfl | rfl
      · exact rcells_free zrow
      · exact .im _), rfl, rfl⟩


end Go.Abs.Sig
