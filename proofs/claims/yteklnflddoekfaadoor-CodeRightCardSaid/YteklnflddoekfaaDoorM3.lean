/- The walks of some functions: what they compute. -/
import Derived.Test.YteklnflddoekfaaDoorM2
namespace Go.Abs.Sig
open Go.RowKit Go.Abs
set_option linter.unusedSimpArgs false
set_option linter.unusedVariables false
set_option maxRecDepth 8000
attribute [local irreducible] StCall StYield WPc Weak IterOf Call2

/-- What a map of rights holds: a function for each letter. -/
structure RM (es : List (V × V)) (H : Heap) : Prop where
  keys : ∃ bs : List Int, es.map (·.1) = bs.map (V.int .u8) ∧ bs.Nodup
  w : ∀ b n, isW b n → ∃ i q : Nat, es[i]? = some (V.int .u8 b, fW q) ∧ H[q]? = some (cW n)
  t : ∀ b n, isT b n → ∃ i q : Nat, es[i]? = some (V.int .u8 b, fT q) ∧ H[q]? = some (cT n)

theorem evFind2_hit {b : Int} {v : V} {K : Option (Nat × V) → Prop} : ∀ (es : List (V × V)) (bs : List Int) (i s : Nat), es.map (·.1) = bs.map (V.int .u8) → bs.Nodup → es[i]? = some (.int .u8 b, v) → K (some (s + i, v)) → evFind2 (.int .u8 b) K es s
  | [], _, i, s, _, _, h, _ => by simp at h
  | e :: es, [], i, s, hk, _, _, _ => by simp at hk
  | e :: es, c :: bs, i, s, hk, hnd, h, hK => by
    simp only [List.map_cons, List.cons.injEq] at hk
    obtain ⟨he, hk⟩ := hk
    rw [List.nodup_cons] at hnd
    unfold evFind2
    have heq : keyEq (.int .u8 b) e.1 = some (decide (b = c)) := by rw [he]; rfl
    rw [heq]
    cases i with
    | zero =>
      simp only [List.getElem?_cons_zero, Option.some.injEq] at h
      subst h
      have hbc : b = c := by
        have : V.int .u8 b = V.int .u8 c := he
        simpa using this
      exact br_t (decide_eq_true hbc) hK
    | succ i =>
      simp only [List.getElem?_cons_succ] at h
      have hne : b ≠ c := by
        rintro rfl
        apply hnd.1
        have : V.int .u8 b ∈ es.map (·.1) := List.mem_map.2 ⟨_, List.mem_of_getElem? h, rfl⟩
        rw [hk, List.mem_map] at this
        obtain ⟨x, hx, hxe⟩ := this
        have : x = b := by simpa using hxe
        rwa [this] at hx
      refine br_f (decide_eq_false hne) (evFind2_hit es bs i (s + 1) hk hnd.2 h ?_)
      rw [show s + 1 + i = s + (i + 1) by omega]
      exact hK

theorem wds_at {b n : Int} (h : isW b n) : ∃ i, i < 5 ∧ wdsL[i]? = some (kv b n) := by
  rcases h with ⟨rfl, rfl⟩ | ⟨rfl, rfl⟩ | ⟨rfl, rfl⟩ | ⟨rfl, rfl⟩ | ⟨rfl, rfl⟩
  · exact ⟨0, by omega, rfl⟩
  · exact ⟨1, by omega, rfl⟩
  · exact ⟨2, by omega, rfl⟩
  · exact ⟨3, by omega, rfl⟩
  · exact ⟨4, by omega, rfl⟩
theorem txs_at {b n : Int} (h : isT b n) : ∃ i, i < 3 ∧ txsL[i]? = some (kv b n) := by
  rcases h with ⟨rfl, rfl⟩ | ⟨rfl, rfl⟩ | ⟨rfl, rfl⟩
  · exact ⟨0, by omega, rfl⟩
  · exact ⟨1, by omega, rfl⟩
  · exact ⟨2, by omega, rfl⟩
theorem kv_inj {b n b' n' : Int} (h : some (kv b n) = some (kv b' n')) : b = b' ∧ n = n' := by
  simp only [Option.some.injEq, kv, Prod.mk.injEq, V.im.injEq, Value.int.injEq, true_and] at h
  exact h

theorem rights_ct (G : Nat → Option (List V)) (bk : Option Blk) (hbk : ∀ n, BW n bk bk) : Call2 Go.Proofs.Tryd.prog G 42 [] [bk] fun v H' => v = .mp 3 ∧ ∃ es c X, H' = bk :: some (.cells 109 [.fn (.func 62) [] []]) :: some (.cells 110 [.fn (.func 63) [] []]) :: some (.map es c) :: X ∧ RM es H' ∧ Scoped H' := by
  refine Call2.mono (rights_ct0 G bk hbk) fun v H' h => ?_
  obtain ⟨hv, i0, i1, i2, i3, i4, k0, k1, k2, b0, b1, b2, b3, b4, n0, n1, n2, n3, n4, d0, d1, d2, m0, m1, m2, rfl, hnd, hnd2, hx0, hx1, hx2, hx3, hx4, hy0, hy1, hy2⟩ := h
  refine ⟨hv, _, _, _, rfl, ⟨⟨[b0, b1, b2, b3, b4, d0, d1, d2], rfl, ?_⟩, fun b n hb => ?_, fun b n hb => ?_⟩, ?_⟩
  · obtain ⟨_, _, e0, _, w0, u0⟩ := wds_kv hx0
    obtain ⟨_, _, e1, _, w1, u1⟩ := wds_kv hx1
    obtain ⟨_, _, e2, _, w2, u2⟩ := wds_kv hx2
    obtain ⟨_, _, e3, _, w3, u3⟩ := wds_kv hx3
    obtain ⟨_, _, e4, _, w4, u4⟩ := wds_kv hx4
    obtain ⟨_, _, f0, _, t0, z0⟩ := txs_kv hy0
    obtain ⟨_, _, f1, _, t1, z1⟩ := txs_kv hy1
    obtain ⟨_, _, f2, _, t2, z2⟩ := txs_kv hy2
    obtain ⟨rfl, rfl⟩ := kv_inj (congrArg some e0)
    obtain ⟨rfl, rfl⟩ := kv_inj (congrArg some e1)
    obtain ⟨rfl, rfl⟩ := kv_inj (congrArg some e2)
    obtain ⟨rfl, rfl⟩ := kv_inj (congrArg some e3)
    obtain ⟨rfl, rfl⟩ := kv_inj (congrArg some e4)
    obtain ⟨rfl, rfl⟩ := kv_inj (congrArg some f0)
    obtain ⟨rfl, rfl⟩ := kv_inj (congrArg some f1)
    obtain ⟨rfl, rfl⟩ := kv_inj (congrArg some f2)
    simp only [List.nodup_cons, List.mem_cons, List.not_mem_nil, or_false, not_or, not_false_eq_true, List.nodup_nil, and_true] at hnd hnd2 ⊢
    obtain ⟨⟨g1, g2, g3, g4⟩, ⟨g5, g6, g7⟩, ⟨g8, g9⟩, g10⟩ := hnd
    obtain ⟨⟨g11, g12⟩, g13⟩ := hnd2
    refine ⟨⟨u0 _ _ _ hx1 (Ne.symm g1), u0 _ _ _ hx2 (Ne.symm g2), u0 _ _ _ hx3 (Ne.symm g3), u0 _ _ _ hx4 (Ne.symm g4), (isWT w0 t0).symm, (isWT w0 t1).symm, (isWT w0 t2).symm⟩,
      ⟨u1 _ _ _ hx2 (Ne.symm g5), u1 _ _ _ hx3 (Ne.symm g6), u1 _ _ _ hx4 (Ne.symm g7), (isWT w1 t0).symm, (isWT w1 t1).symm, (isWT w1 t2).symm⟩,
      ⟨u2 _ _ _ hx3 (Ne.symm g8), u2 _ _ _ hx4 (Ne.symm g9), (isWT w2 t0).symm, (isWT w2 t1).symm, (isWT w2 t2).symm⟩,
      ⟨u3 _ _ _ hx4 (Ne.symm g10), (isWT w3 t0).symm, (isWT w3 t1).symm, (isWT w3 t2).symm⟩,
      ⟨(isWT w4 t0).symm, (isWT w4 t1).symm, (isWT w4 t2).symm⟩, ⟨z0 _ _ _ hy1 (Ne.symm g11), z0 _ _ _ hy2 (Ne.symm g12)⟩, z1 _ _ _ hy2 (Ne.symm g13)⟩
  · obtain ⟨i, hi, hib⟩ := wds_at hb
    have hm : i ∈ [i0, i1, i2, i3, i4] := pigeon hnd (fun j hj => by
      simp only [List.mem_cons, List.not_mem_nil, or_false] at hj
      rcases hj with rfl | rfl | rfl | rfl | rfl <;> exact (List.getElem?_eq_some_iff.1 (by assumption)).1) (Nat.le_refl 5) hi
    simp only [List.mem_cons, List.not_mem_nil, or_false] at hm
    rcases hm with rfl | rfl | rfl | rfl | rfl
    · obtain ⟨rfl, rfl⟩ := kv_inj (hib.symm.trans hx0)
      exact ⟨0, 6, rfl, rfl⟩
    · obtain ⟨rfl, rfl⟩ := kv_inj (hib.symm.trans hx1)
      exact ⟨1, 7, rfl, rfl⟩
    · obtain ⟨rfl, rfl⟩ := kv_inj (hib.symm.trans hx2)
      exact ⟨2, 8, rfl, rfl⟩
    · obtain ⟨rfl, rfl⟩ := kv_inj (hib.symm.trans hx3)
      exact ⟨3, 9, rfl, rfl⟩
    · obtain ⟨rfl, rfl⟩ := kv_inj (hib.symm.trans hx4)
      exact ⟨4, 10, rfl, rfl⟩
  · obtain ⟨i, hi, hib⟩ := txs_at hb
    have hm : i ∈ [k0, k1, k2] := pigeon hnd2 (fun j hj => by
      simp only [List.mem_cons, List.not_mem_nil, or_false] at hj
      rcases hj with rfl | rfl | rfl <;> exact (List.getElem?_eq_some_iff.1 (by assumption)).1) (Nat.le_refl 3) hi
    simp only [List.mem_cons, List.not_mem_nil, or_false] at hm
    rcases hm with rfl | rfl | rfl
    · obtain ⟨rfl, rfl⟩ := kv_inj (hib.symm.trans hy0)
      exact ⟨5, 13, rfl, rfl⟩
    · obtain ⟨rfl, rfl⟩ := kv_inj (hib.symm.trans hy1)
      exact ⟨6, 14, rfl, rfl⟩
    · obtain ⟨rfl, rfl⟩ := kv_inj (hib.symm.trans hy2)
      exact ⟨7, 15, rfl, rfl⟩
  · intro id b hb
    cases id with
    | zero =>
      have := hbk (rgH bk [] 0 [] []).length
      have hb' : bk = some b := by simpa [rgH] using hb
      subst hb'
      exact hbk _
    | succ id => exact okB_bw (List.all_eq_true.1 (show (rgH none _ _ _ _).tail.all (okB 16) = true from rfl) (some b) (List.mem_of_getElem? (i := id) (by simpa [rgH] using hb)))
end Go.Abs.Sig
