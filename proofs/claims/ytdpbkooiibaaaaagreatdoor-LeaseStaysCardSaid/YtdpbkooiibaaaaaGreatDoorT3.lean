/- The walks of some functions: what they compute. -/
import Derived.Test.YtdpbkooiibaaaaaGreatDoorT2

set_option linter.unusedVariables false
set_option linter.unusedSimpArgs false
/-! LC6 -/
namespace Go.Abs.Sig
open Go.RowKit Go.Abs
set_option linter.unusedSimpArgs false
set_option linter.unusedVariables false
set_option maxRecDepth 8000
attribute [local irreducible] StCall StYield WPc Weak IterOf Lp2

theorem ups_ct (G : Nat → Option (List V)) (l : List (Int × Int)) (H : Heap) : Call2 Go.Proofs.Tryz.prog G 148 [.dat 2 (tagR l) .no] H fun r H' => H' = H ++ [some (.cells 23 [.dat 2 (tagR l) .no])] ∧ r = .fn (.func 170) [] [.ptr H.length 0] := by
  refine stCall2 Go.Proofs.Tryz.func148 rfl (by decide) ?_
  conv => whnf
  exact ⟨rfl, rfl⟩

/-- From where to where, and is there any? -/
def setR (l : List (Int × Int)) (m : Int) (many : Bool) : Nat × Nat × Bool := match many with
  | false => (cntL l m, cntL l m + 1, plL l m)
  | true => if m = 0 then (0, l.length, decide (0 < l.length)) else (0, cntL l m + 1, plL l m)
def upsOf (l : List (Int × Int)) : List Int := l.map (·.2)
def setL (t : TagsL) (m : Int) (many : Bool) : TagsL × List Int × Int :=
  match (setR t.l m many).2.2 with
  | true => ({ t with l := t.l.take (setR t.l m many).1 ++ t.l.drop (setR t.l m many).2.1 }, upsOf ((t.l.take (setR t.l m many).2.1).drop (setR t.l m many).1), 0)
  | false => (t, [], 13)

theorem fn170_vw {n k : Nat} (h : k < n) : VW n (.fn (.func 170) [] [.ptr k 0]) (.fn (.func 170) [] [.ptr k 0]) := .fn _ _ _ (fun i v h => by simp at h) (fun i v hv => by
  have hv := List.mem_of_getElem? hv
  simp only [List.mem_cons, List.not_mem_nil, or_false] at hv
  subst hv
  exact .ptr k 0 h)
theorem fnOk170 : fnOk Go.Proofs.Tryz.prog 170 := ⟨_, Go.Proofs.Tryz.func170, rfl, by decide⟩
def setH (t : TagsL) (x : List (Int × Int)) (i : Nat) : Heap :=
  [some (.cells 25 (tagsC t)), some (.cells 25 [.int .u64 0, .int .u64 0, .dat 0 [] .tight]), some (.cells 26 [.dat 1 (numR (upsOf (x.take i))) (.cls 48)]), some (.cells 23 [.dat 2 (tagR x) .no])]
theorem upR_at {x : List (Int × Int)} {i : Nat} {v : List V} (h : (upR x)[i]? = some v) : ∃ hi : i < x.length, v = [.int .u64 x[i].2] := by
  have hi : i < x.length := by have := (List.getElem?_eq_some_iff.1 h).1; simpa [upR] using this
  refine ⟨hi, ?_⟩
  simp [upR, hi] at h
  exact h.symm
theorem numR_take {x : List (Int × Int)} {i : Nat} (hi : i < x.length) : numR (upsOf (x.take i)) ++ [[.int .u64 x[i].2]] = numR (upsOf (x.take (i + 1))) := by
  rw [List.take_succ_eq_append_getElem hi]
  simp only [numR, upsOf, List.map_append, List.map_cons, List.map_nil]

theorem ccw_ct {G : Nat → Option (List V)} {a b : List (Int × Int)} {r : V} (h : ∀ H, Call2 Go.Proofs.Tryz.prog G 149 [.dat 1 (ccR a b) .no] H fun r' H' => H' = H ∧ r' = r) (H : Heap) :
    Call2 Go.Proofs.Tryz.prog G 149 [.dat 1 [[.dat 2 (tagR a) .tight], [.dat 2 (tagR b) .no]] .tight] H fun r' H' => H' = H ∧ r' = r := by
  refine Call2.weakA (.cons (.rows 1 _ (ccR a b) _ rfl (fun i r r' h h' => ?_) (fun i j v v' h h' => ?_)) .nil) (h H)
  · match i, h, h' with
    | 0, h, h' => cases h; cases h'; rfl
    | 1, h, h' => cases h; cases h'; rfl
    | i + 2, h, h' => cases h
  · match i, j, h, h' with
    | 0, 0, h, h' => cases h; cases h'; exact dw_no _ _ _
    | 1, 0, h, h' => cases h; cases h'; exact dw_no _ _ _
    | 0, j + 1, h, h' => cases h
    | 1, j + 1, h, h' => cases h
    | i + 2, j, h, h' => cases h
theorem zblk_bw (n : Nat) : BW n (some (.cells 25 [.int .u64 0, .int .u64 0, .dat 0 [] .tight])) (some (.cells 25 [.int .u64 0, .int .u64 0, .dat 0 [] .tight])) :=
  .cells _ _ _ (.cons (.im _) (.cons (.im _) (.cons (.dat _ _ _) .nil)))
theorem settle_ct (G : Nat → Option (List V)) (t : TagsL) (m : Int) (many : Bool) (hl : t.l.length * 16 ≤ maxBytes) (hr : Rising t.l) (H : Heap) :
    Call2 Go.Proofs.Tryz.prog G 127 [.agg (tagsC t), .int .u64 m, .bool many] H fun r H' => H' = H ∧ r = .tup [.agg (tagsC (setL t m many).1), .dat 1 (numR (setL t m many).2.1) .no, .int .i64 (setL t m many).2.2] := by
  refine Call2.free (fun x hx => by
    simp only [List.mem_cons, List.not_mem_nil, or_false] at hx
    rcases hx with rfl | rfl | rfl
    · exact .agg _ (tagsC_free' _)
    · exact .im _
    · exact .im _) ?_ H
  have hmb : maxBytes = 140737488355328 := rfl
  have fr : ∀ s' (n : List Int) (e : Int), (V.tup [.agg (tagsC s'), .dat 1 (numR n) .no, .int .i64 e]).Free := fun s' n e => .tup _ (by
    intro v hv
    simp only [List.mem_cons, List.not_mem_nil, or_false] at hv
    rcases hv with rfl | rfl | rfl
    · exact .agg _ (tagsC_free' _)
    · exact .dat _ _ _ (by simp)
    · exact .im _)
  refine Call2.weakR ?_
  have hp := place_ct G t m (by omega) hr
  have hcl : cntL t.l m ≤ t.l.length := List.countP_le_length
  have hpl : plL t.l m = true → cntL t.l m < t.l.length := fun h => by
    unfold plL at h
    cases hx : t.l[cntL t.l m]? with
    | none => rw [hx] at h; cases h
    | some x => exact (List.getElem?_eq_some_iff.1 hx).1
  have hset : setR t.l m many = match many with
    | false => (cntL t.l m, cntL t.l m + 1, plL t.l m)
    | true => if m = 0 then (0, t.l.length, decide (0 < t.l.length)) else (0, cntL t.l m + 1, plL t.l m) := by unfold setR; rfl
  have hbad : ∀ r, setR t.l m many = r → r.2.2 = false → setL t m many = (t, [], 13) := fun r h1 h2 => by unfold setL; rw [h1, h2]
  have hgood : ∀ a b, setR t.l m many = (a, b, true) → setL t m many = ({ t with l := t.l.take a ++ t.l.drop b }, upsOf ((t.l.take b).drop a), 0) := fun a b h1 => by unfold setL; rw [h1]
  generalize plL t.l m = is at hp hpl hset
  generalize cntL t.l m = ci at hp hpl hset hcl
  generalize setL t m many = res at hbad hgood ⊢
  obtain ⟨nx, la, l⟩ := t
  have hvl : (tagR l).length = l.length := by simp [tagR]
  have hl' : l.length * 16 ≤ maxBytes := hl
  have hwc : IntKind.i64.wrap ((ci : Int) + 1) = ((ci + 1 : Nat) : Int) := by
    have : ci ≤ l.length := hcl
    rw [wrap_i64 (by omega) (by omega)]; rfl
  refine stCall2 Go.Proofs.Tryz.func127 rfl (by decide) ?_
  conv => whnf
  refine Call2.mono (hp _) fun r0 H0 h => ?_
  obtain ⟨h1, h2⟩ := h
  rw [h1, h2]
  clear h1 h2 r0 H0
  conv => whnf
  rw [hwc]
  cases many
  · conv => whnf
    cases is
    · conv => whnf
      obtain rfl := hbad _ hset rfl
      exact ⟨.tup [.agg (tagsC ⟨nx, la, l⟩), .dat 1 (numR []) .no, .int .i64 13], VW.tupL (.cons (.free (.agg _ (tagsC_free' _))) (.cons (.nil _ _ _ _ (.inl rfl)) (.cons (.im _) .nil))), fr _ _ _, rfl⟩
    · have hres := hgood ci (ci + 1) hset
      clear hbad hgood
      subst hres
      have hab : ci ≤ ci + 1 := by omega
      have hbl : ci + 1 ≤ l.length := hpl rfl
      generalize ci + 1 = b at hab hbl hwc ⊢
      generalize hca : ci = a at *
      have hres : ∀ y : List (Int × Int), y = (l.take b).drop a → V.tup [.agg (tagsC ⟨nx, la, l.take a ++ l.drop b⟩), .dat 1 (numR (upsOf y)) .no, .int .i64 0] = V.tup [.agg (tagsC ({ nx := nx, la := la, l := l.take a ++ l.drop b }, upsOf ((l.take b).drop a), (0 : Int)).1), .dat 1 (numR ({ nx := nx, la := la, l := l.take a ++ l.drop b : TagsL }, upsOf ((l.take b).drop a), (0 : Int)).2.1) .no, .int .i64 0] := fun y h => by rw [h]
      conv => whnf
      refine ⟨⟨.inr rfl, by omega, by omega, by first | exact Int.le_refl _ | omega | (show ((b : Nat) : Int) ≤ ((tagR l).length : Int); rw [hvl]; omega)⟩, ?_⟩
      have hxr : List.drop (Int.toNat (a : Int)) (List.take (Int.toNat (b : Int)) (tagR l)) = tagR ((l.take b).drop a) := by simp [tagR, List.map_take, List.map_drop]
      have hxlen : ((l.take b).drop a).length ≤ l.length := by simp; omega
      have hlo : tagR (l.take a) = (tagR l).take a := by simp [tagR, List.map_take]
      have hhi : tagR (l.drop b) = (tagR l).drop b := by simp [tagR, List.map_drop]
      conv => whnf
      rw [hxr]
      have hres := hres _ rfl
      generalize (l.take b).drop a = x at hxlen hres ⊢
      clear hxr
      have hu := ups_ct G x
      refine Call2.mono (hu _) fun r0 H0 h => ?_
      obtain ⟨h1, h2⟩ := h
      rw [h1, h2]
      clear h1 h2 r0 H0
      conv => whnf
      intro hw
      have hi := ups1_ct G x (by omega) 3
      refine WPc.weak (σ0 := (headS 63 ([.bad, .bad, .bad, .ptr 0 0, .bad, .bad, .ptr 1 0, .bad, .bad, .int .i64 (a : Int), .bad, .int .i64 (b : Int), .ptr 2 0] ++ List.replicate 30 .bad ++ [.fn (.func 170) [] [.ptr 3 0]] ++ List.replicate 19 .bad) (setH ⟨nx, la, l⟩ x 0) [] none).st) ?_ (Nat.le_of_ble_eq_true rfl) ?_
      · exact weak2 hw rfl ⟨.ptr 0 0 (Nat.le_of_ble_eq_true rfl), .ptr 1 0 (Nat.le_of_ble_eq_true rfl), .im _, .im _, .ptr 2 0 (Nat.le_of_ble_eq_true rfl), fn170_vw (Nat.le_of_ble_eq_true rfl), trivial⟩
          (.cons (.free (tagsC_free' _)) (.cons (zblk_bw _) (.cons (.cells _ _ _ (.cons (.nil _ _ _ _ (.inl rfl)) .nil)) (.cons (.cells _ _ _ (.cons (.dat _ _ _) .nil)) (.nil _))))) (fun id hid => by cases hid) rfl (fun id hid => by cases hid)
      clear hw
      refine wpc_rangeIter2 hi (Nat.le_of_ble_eq_true rfl) rfl rfl fnOk170 (fun i H' => H' = setH ⟨nx, la, l⟩ x i) rfl ?_ ?_ ?_ ?_ ?_
      · rintro i H' rfl; rfl
      · rintro i H' rfl; rfl
      · intro v hv
        obtain ⟨y, _, rfl⟩ := List.mem_map.1 hv
        rfl
      · rintro i v H' hv rfl hlen hs'
        obtain ⟨hix, rfl⟩ := upR_at hv
        have hnl : (numR (upsOf (x.take i))).length = i := by simp [numR, upsOf]; omega
        conv => whnf
        refine ⟨rfl, rfl, ?_⟩
        conv => whnf
        refine ⟨.inr rfl, .inr rfl, ?_, ?_, ?_, ?_⟩
        · intro r hr
          obtain rfl := List.mem_singleton.1 hr
          rfl
        · show ((numR (upsOf (x.take i))).length + 1) * 8 ≤ maxBytes
          rw [hnl]; omega
        · show (numR (upsOf (x.take i))).length + 1 ≤ maxBytes
          rw [hnl]; omega
        have hap := numR_take hix
        conv => whnf
        refine ⟨setH ⟨nx, la, l⟩ x (i + 1), [], by unfold setH; rw [← hap]; rfl, rfl, ?_, rfl⟩
        intro id b hb
        have hb := List.mem_of_getElem? hb
        simp only [setH, List.mem_cons, Option.some.injEq, List.not_mem_nil, or_false] at hb
        rcases hb with rfl | rfl | rfl | rfl
        · exact .inr (.free (tagsC_free' _))
        · exact .inr (zblk_bw _)
        · exact .inr (.cells _ _ _ (.cons (.dat _ _ _) .nil))
        · exact .inr (.cells _ _ _ (.cons (.dat _ _ _) .nil))
      · rintro H' rfl
        have hxx : x.take (upR x).length = x := by simp [upR]
        have hcc := concat2_ct G (l.take a) (l.drop b) (by simp; omega)
        conv => whnf
        intro hw5
        refine wpc_draw2 12 (by rfl) (by decide) (by decide) hw5 ?_
        conv => whnf
        have hlo2 : List.drop (Int.toNat 0) (List.take (Int.toNat (a : Int)) (tagR l)) = tagR (l.take a) := by rw [hlo]; simp
        have hhi2 : List.drop (Int.toNat (b : Int)) (List.take (Int.toNat ((tagR l).length : Int)) (tagR l)) = tagR (l.drop b) := by rw [hhi]; simp
        refine ⟨⟨.inr rfl, Int.le_refl _, by omega, rfl, by show ((a : Nat) : Int) ≤ ((tagR l).length : Int); rw [hvl]; omega⟩, ?_⟩
        rw [hlo2]
        conv => whnf
        refine ⟨⟨.inr rfl, by omega, by first | exact Int.le_refl _ | omega | (show ((b : Nat) : Int) ≤ ((tagR l).length : Int); rw [hvl]; omega), Int.le_refl _⟩, ?_⟩
        rw [hhi2]
        conv => whnf
        refine ⟨_, fun _ _ => ccw_ct hcc _, ?_⟩
        conv => whnf
        intro hw6
        refine wpc_drawG2 [2] [] [(1, 2)] (by rfl) (by decide) (by decide) hw6 ?_
        conv => whnf
        refine ⟨.tup [.agg (tagsC ⟨nx, la, l.take a ++ l.drop b⟩), .dat 1 (numR (upsOf x)) .no, .int .i64 0], ?_, fr _ _ _, ?_⟩
        · refine VW.tupL (.cons (.free (.agg _ (tagsC_free' ⟨nx, la, l.take a ++ l.drop b⟩))) (.cons ?_ (.cons (.im _) .nil)))
          rw [hxx]
          exact .no _ _ _
        · exact hres
  · conv => whnf
    by_cases hm0 : m = 0
    · refine br_t (show decide (m = 0) = true from decide_eq_true hm0) ?_
      conv => whnf
      intro hw8
      refine wpc_draw2 9 (by rfl) (by decide) (by decide) hw8 ?_
      conv => whnf
      by_cases hl0 : 0 < l.length
      · have hset2 : setR l m true = (0, l.length, true) := hset.trans (by show (if m = 0 then _ else _) = _; rw [if_pos hm0, decide_eq_true hl0])
        have hres := hgood 0 l.length hset2
        clear hbad hgood
        subst hres
        have hab : 0 ≤ l.length := by omega
        have hbl : l.length ≤ l.length := Nat.le_refl _
        have hd : decide (0 < ((tagR l).length : Int)) = true := decide_eq_true (by rw [hvl]; omega)
        rw [hd]
        conv => whnf
        rw [hvl]
        have hres : ∀ y : List (Int × Int), y = (l.take l.length).drop 0 → V.tup [.agg (tagsC ⟨nx, la, l.take 0 ++ l.drop l.length⟩), .dat 1 (numR (upsOf y)) .no, .int .i64 0] = V.tup [.agg (tagsC ({ nx := nx, la := la, l := l.take 0 ++ l.drop l.length }, upsOf ((l.take l.length).drop 0), (0 : Int)).1), .dat 1 (numR ({ nx := nx, la := la, l := l.take 0 ++ l.drop l.length : TagsL }, upsOf ((l.take l.length).drop 0), (0 : Int)).2.1) .no, .int .i64 0] := fun y h => by rw [h]
        generalize hbb : l.length = b at hab hbl hvl hres ⊢
        refine ⟨⟨.inr rfl, by omega, by omega, by first | exact Int.le_refl _ | omega | (show ((b : Nat) : Int) ≤ ((tagR l).length : Int); rw [hvl]; omega)⟩, ?_⟩
        have hxr : List.drop (Int.toNat (0 : Int)) (List.take (Int.toNat (b : Int)) (tagR l)) = tagR ((l.take b).drop 0) := by simp [tagR, List.map_take, List.map_drop]
        have hxlen : ((l.take b).drop 0).length ≤ l.length := by simp; omega
        have hlo : tagR (l.take 0) = (tagR l).take 0 := by simp [tagR, List.map_take]
        have hhi : tagR (l.drop b) = (tagR l).drop b := by simp [tagR, List.map_drop]
        conv => whnf
        rw [hxr]
        have hres := hres _ rfl
        generalize (l.take b).drop 0 = x at hxlen hres ⊢
        clear hxr
        have hu := ups_ct G x
        refine Call2.mono (hu _) fun r0 H0 h => ?_
        obtain ⟨h1, h2⟩ := h
        rw [h1, h2]
        clear h1 h2 r0 H0
        conv => whnf
        intro hw
        have hi := ups1_ct G x (by omega) 3
        refine WPc.weak (σ0 := (headS 63 ([.bad, .bad, .bad, .ptr 0 0, .bad, .bad, .ptr 1 0, .bad, .bad, .int .i64 (0 : Int), .bad, .int .i64 (b : Int), .ptr 2 0] ++ List.replicate 30 .bad ++ [.fn (.func 170) [] [.ptr 3 0]] ++ List.replicate 19 .bad) (setH ⟨nx, la, l⟩ x 0) [] none).st) ?_ (Nat.le_of_ble_eq_true rfl) ?_
        · exact weak2 hw rfl ⟨.ptr 0 0 (Nat.le_of_ble_eq_true rfl), .ptr 1 0 (Nat.le_of_ble_eq_true rfl), .im _, .im _, .ptr 2 0 (Nat.le_of_ble_eq_true rfl), fn170_vw (Nat.le_of_ble_eq_true rfl), trivial⟩
            (.cons (.free (tagsC_free' _)) (.cons (zblk_bw _) (.cons (.cells _ _ _ (.cons (.nil _ _ _ _ (.inl rfl)) .nil)) (.cons (.cells _ _ _ (.cons (.dat _ _ _) .nil)) (.nil _))))) (fun id hid => by cases hid) rfl (fun id hid => by cases hid)
        clear hw
        refine wpc_rangeIter2 hi (Nat.le_of_ble_eq_true rfl) rfl rfl fnOk170 (fun i H' => H' = setH ⟨nx, la, l⟩ x i) rfl ?_ ?_ ?_ ?_ ?_
        · rintro i H' rfl; rfl
        · rintro i H' rfl; rfl
        · intro v hv
          obtain ⟨y, _, rfl⟩ := List.mem_map.1 hv
          rfl
        · rintro i v H' hv rfl hlen hs'
          obtain ⟨hix, rfl⟩ := upR_at hv
          have hnl : (numR (upsOf (x.take i))).length = i := by simp [numR, upsOf]; omega
          conv => whnf
          refine ⟨rfl, rfl, ?_⟩
          conv => whnf
          refine ⟨.inr rfl, .inr rfl, ?_, ?_, ?_, ?_⟩
          · intro r hr
            obtain rfl := List.mem_singleton.1 hr
            rfl
          · show ((numR (upsOf (x.take i))).length + 1) * 8 ≤ maxBytes
            rw [hnl]; omega
          · show (numR (upsOf (x.take i))).length + 1 ≤ maxBytes
            rw [hnl]; omega
          have hap := numR_take hix
          conv => whnf
          refine ⟨setH ⟨nx, la, l⟩ x (i + 1), [], by unfold setH; rw [← hap]; rfl, rfl, ?_, rfl⟩
          intro id b hb
          have hb := List.mem_of_getElem? hb
          simp only [setH, List.mem_cons, Option.some.injEq, List.not_mem_nil, or_false] at hb
          rcases hb with rfl | rfl | rfl | rfl
          · exact .inr (.free (tagsC_free' _))
          · exact .inr (zblk_bw _)
          · exact .inr (.cells _ _ _ (.cons (.dat _ _ _) .nil))
          · exact .inr (.cells _ _ _ (.cons (.dat _ _ _) .nil))
        · rintro H' rfl
          have hxx : x.take (upR x).length = x := by simp [upR]
          have hcc := concat2_ct G (l.take 0) (l.drop b) (by simp; omega)
          conv => whnf
          intro hw5
          refine wpc_draw2 12 (by rfl) (by decide) (by decide) hw5 ?_
          conv => whnf
          have hlo2 : List.drop (Int.toNat 0) (List.take (Int.toNat (0 : Int)) (tagR l)) = tagR (l.take 0) := by rw [hlo]; simp
          have hhi2 : List.drop (Int.toNat (b : Int)) (List.take (Int.toNat ((tagR l).length : Int)) (tagR l)) = tagR (l.drop b) := by rw [hhi]; simp
          refine ⟨⟨.inr rfl, Int.le_refl _, by omega, rfl, by show ((0 : Nat) : Int) ≤ ((tagR l).length : Int); rw [hvl]; omega⟩, ?_⟩
          rw [hlo2]
          conv => whnf
          refine ⟨⟨.inr rfl, by omega, by first | exact Int.le_refl _ | omega | (show ((b : Nat) : Int) ≤ ((tagR l).length : Int); rw [hvl]; omega), Int.le_refl _⟩, ?_⟩
          rw [hhi2]
          conv => whnf
          refine ⟨_, fun _ _ => ccw_ct hcc _, ?_⟩
          conv => whnf
          intro hw6
          refine wpc_drawG2 [2] [] [(1, 2)] (by rfl) (by decide) (by decide) hw6 ?_
          conv => whnf
          refine ⟨.tup [.agg (tagsC ⟨nx, la, l.take 0 ++ l.drop b⟩), .dat 1 (numR (upsOf x)) .no, .int .i64 0], ?_, fr _ _ _, ?_⟩
          · refine VW.tupL (.cons (.free (.agg _ (tagsC_free' ⟨nx, la, l.take 0 ++ l.drop b⟩))) (.cons ?_ (.cons (.im _) .nil)))
            rw [hxx]
            exact .no _ _ _
          · exact hres
      · have hset2 : setR l m true = (0, l.length, false) := hset.trans (by show (if m = 0 then _ else _) = _; rw [if_pos hm0, decide_eq_false hl0])
        have hd : decide (0 < ((tagR l).length : Int)) = false := decide_eq_false (by rw [hvl]; omega)
        rw [hd]
        conv => whnf
        obtain rfl := hbad _ hset2 rfl
        exact ⟨.tup [.agg (tagsC ⟨nx, la, l⟩), .dat 1 (numR []) .no, .int .i64 13], VW.tupL (.cons (.free (.agg _ (tagsC_free' _))) (.cons (.nil _ _ _ _ (.inl rfl)) (.cons (.im _) .nil))), fr _ _ _, rfl⟩
    · refine br_f (show decide (m = 0) = false from decide_eq_false hm0) ?_
      have hset2 : setR l m true = (0, ci + 1, is) := hset.trans (by show (if m = 0 then _ else _) = _; rw [if_neg hm0])
      cases is
      · conv => whnf
        obtain rfl := hbad _ hset2 rfl
        exact ⟨.tup [.agg (tagsC ⟨nx, la, l⟩), .dat 1 (numR []) .no, .int .i64 13], VW.tupL (.cons (.free (.agg _ (tagsC_free' _))) (.cons (.nil _ _ _ _ (.inl rfl)) (.cons (.im _) .nil))), fr _ _ _, rfl⟩
      · have hres := hgood 0 (ci + 1) hset2
        clear hbad hgood
        subst hres
        have hab : 0 ≤ ci + 1 := by omega
        have hbl : ci + 1 ≤ l.length := hpl rfl
        generalize ci + 1 = b at hab hbl hwc ⊢
        have hres : ∀ y : List (Int × Int), y = (l.take b).drop 0 → V.tup [.agg (tagsC ⟨nx, la, l.take 0 ++ l.drop b⟩), .dat 1 (numR (upsOf y)) .no, .int .i64 0] = V.tup [.agg (tagsC ({ nx := nx, la := la, l := l.take 0 ++ l.drop b }, upsOf ((l.take b).drop 0), (0 : Int)).1), .dat 1 (numR ({ nx := nx, la := la, l := l.take 0 ++ l.drop b : TagsL }, upsOf ((l.take b).drop 0), (0 : Int)).2.1) .no, .int .i64 0] := fun y h => by rw [h]
        conv => whnf
        refine ⟨⟨.inr rfl, by omega, by omega, by first | exact Int.le_refl _ | omega | (show ((b : Nat) : Int) ≤ ((tagR l).length : Int); rw [hvl]; omega)⟩, ?_⟩
        have hxr : List.drop (Int.toNat (0 : Int)) (List.take (Int.toNat (b : Int)) (tagR l)) = tagR ((l.take b).drop 0) := by simp [tagR, List.map_take, List.map_drop]
        have hxlen : ((l.take b).drop 0).length ≤ l.length := by simp; omega
        have hlo : tagR (l.take 0) = (tagR l).take 0 := by simp [tagR, List.map_take]
        have hhi : tagR (l.drop b) = (tagR l).drop b := by simp [tagR, List.map_drop]
        conv => whnf
        rw [hxr]
        have hres := hres _ rfl
        generalize (l.take b).drop 0 = x at hxlen hres ⊢
        clear hxr
        have hu := ups_ct G x
        refine Call2.mono (hu _) fun r0 H0 h => ?_
        obtain ⟨h1, h2⟩ := h
        rw [h1, h2]
        clear h1 h2 r0 H0
        conv => whnf
        intro hw
        have hi := ups1_ct G x (by omega) 3
        refine WPc.weak (σ0 := (headS 63 ([.bad, .bad, .bad, .ptr 0 0, .bad, .bad, .ptr 1 0, .bad, .bad, .int .i64 (0 : Int), .bad, .int .i64 (b : Int), .ptr 2 0] ++ List.replicate 30 .bad ++ [.fn (.func 170) [] [.ptr 3 0]] ++ List.replicate 19 .bad) (setH ⟨nx, la, l⟩ x 0) [] none).st) ?_ (Nat.le_of_ble_eq_true rfl) ?_
        · exact weak2 hw rfl ⟨.ptr 0 0 (Nat.le_of_ble_eq_true rfl), .ptr 1 0 (Nat.le_of_ble_eq_true rfl), .im _, .im _, .ptr 2 0 (Nat.le_of_ble_eq_true rfl), fn170_vw (Nat.le_of_ble_eq_true rfl), trivial⟩
            (.cons (.free (tagsC_free' _)) (.cons (zblk_bw _) (.cons (.cells _ _ _ (.cons (.nil _ _ _ _ (.inl rfl)) .nil)) (.cons (.cells _ _ _ (.cons (.dat _ _ _) .nil)) (.nil _))))) (fun id hid => by cases hid) rfl (fun id hid => by cases hid)
        clear hw
        refine wpc_rangeIter2 hi (Nat.le_of_ble_eq_true rfl) rfl rfl fnOk170 (fun i H' => H' = setH ⟨nx, la, l⟩ x i) rfl ?_ ?_ ?_ ?_ ?_
        · rintro i H' rfl; rfl
        · rintro i H' rfl; rfl
        · intro v hv
          obtain ⟨y, _, rfl⟩ := List.mem_map.1 hv
          rfl
        · rintro i v H' hv rfl hlen hs'
          obtain ⟨hix, rfl⟩ := upR_at hv
          have hnl : (numR (upsOf (x.take i))).length = i := by simp [numR, upsOf]; omega
          conv => whnf
          refine ⟨rfl, rfl, ?_⟩
          conv => whnf
          refine ⟨.inr rfl, .inr rfl, ?_, ?_, ?_, ?_⟩
          · intro r hr
            obtain rfl := List.mem_singleton.1 hr
            rfl
          · show ((numR (upsOf (x.take i))).length + 1) * 8 ≤ maxBytes
            rw [hnl]; omega
          · show (numR (upsOf (x.take i))).length + 1 ≤ maxBytes
            rw [hnl]; omega
          have hap := numR_take hix
          conv => whnf
          refine ⟨setH ⟨nx, la, l⟩ x (i + 1), [], by unfold setH; rw [← hap]; rfl, rfl, ?_, rfl⟩
          intro id b hb
          have hb := List.mem_of_getElem? hb
          simp only [setH, List.mem_cons, Option.some.injEq, List.not_mem_nil, or_false] at hb
          rcases hb with rfl | rfl | rfl | rfl
          · exact .inr (.free (tagsC_free' _))
          · exact .inr (zblk_bw _)
          · exact .inr (.cells _ _ _ (.cons (.dat _ _ _) .nil))
          · exact .inr (.cells _ _ _ (.cons (.dat _ _ _) .nil))
        · rintro H' rfl
          have hxx : x.take (upR x).length = x := by simp [upR]
          have hcc := concat2_ct G (l.take 0) (l.drop b) (by simp; omega)
          conv => whnf
          intro hw5
          refine wpc_draw2 12 (by rfl) (by decide) (by decide) hw5 ?_
          conv => whnf
          have hlo2 : List.drop (Int.toNat 0) (List.take (Int.toNat (0 : Int)) (tagR l)) = tagR (l.take 0) := by rw [hlo]; simp
          have hhi2 : List.drop (Int.toNat (b : Int)) (List.take (Int.toNat ((tagR l).length : Int)) (tagR l)) = tagR (l.drop b) := by rw [hhi]; simp
          refine ⟨⟨.inr rfl, Int.le_refl _, by omega, rfl, by show ((0 : Nat) : Int) ≤ ((tagR l).length : Int); rw [hvl]; omega⟩, ?_⟩
          rw [hlo2]
          conv => whnf
          refine ⟨⟨.inr rfl, by omega, by first | exact Int.le_refl _ | omega | (show ((b : Nat) : Int) ≤ ((tagR l).length : Int); rw [hvl]; omega), Int.le_refl _⟩, ?_⟩
          rw [hhi2]
          conv => whnf
          refine ⟨_, fun _ _ => ccw_ct hcc _, ?_⟩
          conv => whnf
          intro hw6
          refine wpc_drawG2 [2] [] [(1, 2)] (by rfl) (by decide) (by decide) hw6 ?_
          conv => whnf
          refine ⟨.tup [.agg (tagsC ⟨nx, la, l.take 0 ++ l.drop b⟩), .dat 1 (numR (upsOf x)) .no, .int .i64 0], ?_, fr _ _ _, ?_⟩
          · refine VW.tupL (.cons (.free (.agg _ (tagsC_free' ⟨nx, la, l.take 0 ++ l.drop b⟩))) (.cons ?_ (.cons (.im _) .nil)))
            rw [hxx]
            exact .no _ _ _
          · exact hres
end Go.Abs.Sig

/-! LC7 -/
namespace Go.Abs.Sig
open Go.RowKit Go.Abs
set_option linter.unusedSimpArgs false
set_option linter.unusedVariables false
set_option maxRecDepth 8000
attribute [local irreducible] StCall StYield WPc Weak IterOf Lp2

/-- Settle some: with what is told the broker. -/
def wSettle (l : LeaseL) (c : Cm) (many : Bool) : LeaseL × Cm × Int :=
  ({ l with t := (setL l.t (argOf c.1 0).1 many).1 }, if (setL l.t (argOf c.1 0).1 many).2.2 = 0 then withC c 0 (((setL l.t (argOf c.1 0).1 many).2.1.getLast?).getD 0, []) else c, (setL l.t (argOf c.1 0).1 many).2.2)
theorem wsettle_ct (G : Nat → Option (List V)) (H : Heap) (hH : H.all noClsB = true) (k : Nat) (l : LeaseL) (c : Cm) (many : Bool) (hk : H[k]? = some (wkB l c (.dat 0 [] .tight) 0)) (hl : l.t.l.length * 16 ≤ maxBytes) (hr : Rising l.t.l) (hb : c.1.2.2.length * 24 ≤ maxBytes)
    (hne : (setL l.t (argOf c.1 0).1 many).2.2 = 0 → (setL l.t (argOf c.1 0).1 many).2.1 ≠ []) (hlen : (setL l.t (argOf c.1 0).1 many).2.1.length ≤ maxBytes) :
    Call2 Go.Proofs.Tryz.prog G 91 [.ptr k 0, .bool many] H fun r H' => H' = H.set k (wkB (wSettle l c many).1 (wSettle l c many).2.1 (.dat 0 [] .tight) (wSettle l c many).2.2) ∧ r = .tup [] := by
  have hkl := lt_of_get hk
  have hn := fun X => num_ct G (H ++ X) k l c _ 0 (get_app hk) 0
  unfold wSettle
  generalize (argOf c.1 0).1 = m at hn hne hlen ⊢
  have hs := settle_ct G l.t m many hl hr
  generalize setL l.t m many = u at hs hne hlen ⊢
  obtain ⟨us, uu, ue⟩ := u
  obtain ⟨who, t, s, nn, tx, gets, most⟩ := l
  refine Call2.cutW ?_
  refine stCall2 Go.Proofs.Tryz.func91 rfl (by decide) ?_
  conv => whnf
  intro hw
  refine wpc_drawG2 [13, 14] [] [] (by rfl) (by decide) (by decide) hw ?_
  conv => whnf
  rw [hk]
  conv => whnf
  refine ⟨_, fun X _ => hn X, ?_⟩
  conv => whnf
  refine ⟨_, fun X _ => hs _, ?_⟩
  iterate 2 (conv => whnf; try simp only [List.append_assoc, List.cons_append, List.nil_append, List.length_append, List.length_cons, List.length_nil, Nat.zero_add, Nat.add_assoc, Nat.reduceAdd, ga0, ga1, ga2, ga3, ga4, ga5, sa0, sa1, sa2, sa3, sa4, sa5, S2.setH_H, List.all_cons, List.all_nil, isDefd, nodupB, List.any_nil, Bool.and_true, Bool.not_false, List.foldl_cons, List.foldl_nil])
  refine grd_intro (dqOkL_of (all_app hH rfl) (all_app hH rfl)) ?_
  iterate 3 (conv => whnf; try simp only [List.append_assoc, List.cons_append, List.nil_append, List.length_append, List.length_cons, List.length_nil, Nat.zero_add, Nat.add_assoc, Nat.reduceAdd, ga0, ga1, ga2, ga3, ga4, ga5, sa0, sa1, sa2, sa3, sa4, sa5, S2.setH_H, List.all_cons, List.all_nil, isDefd, nodupB, List.any_nil, Bool.and_true, Bool.not_false, List.foldl_cons, List.foldl_nil])
  rw [get_app hk]
  iterate 2 (conv => whnf; try simp only [List.append_assoc, List.cons_append, List.nil_append, List.length_append, List.length_cons, List.length_nil, Nat.zero_add, Nat.add_assoc, Nat.reduceAdd, ga0, ga1, ga2, ga3, ga4, ga5, sa0, sa1, sa2, sa3, sa4, sa5, S2.setH_H, List.all_cons, List.all_nil, isDefd, nodupB, List.any_nil, Bool.and_true, Bool.not_false, List.foldl_cons, List.foldl_nil])
  have hkl2 : ∀ L : Heap, k < (H ++ L).length := fun L => by rw [List.length_append]; omega
  rw [set_get (hkl2 _)]
  iterate 2 (conv => whnf; try simp only [List.append_assoc, List.cons_append, List.nil_append, List.length_append, List.length_cons, List.length_nil, Nat.zero_add, Nat.add_assoc, Nat.reduceAdd, ga0, ga1, ga2, ga3, ga4, ga5, sa0, sa1, sa2, sa3, sa4, sa5, S2.setH_H, List.all_cons, List.all_nil, isDefd, nodupB, List.any_nil, Bool.and_true, Bool.not_false, List.foldl_cons, List.foldl_nil])
  by_cases h0 : ue = 0
  · refine br_t (show decide (ue = 0) = true from decide_eq_true h0) ?_
    have hul : (numR uu).length = uu.length := by simp [numR]
    have hu0 : uu ≠ [] := hne h0
    have hupos : 0 < uu.length := List.length_pos_iff.2 hu0
    have hlen : uu.length ≤ 140737488355328 := hlen
    have hwi : IntKind.i64.wrap (((numR uu).length : Int) - 1) = ((uu.length - 1 : Nat) : Int) := by rw [hul, wrap_i64 (by omega) (by omega)]; omega
    have hd0 : (true && true && decide ((0 : Int) ≤ ((uu.length - 1 : Nat) : Int))) = true := by simp
    have hg1 : (numR uu)[Int.toNat ((uu.length - 1 : Nat) : Int)]? = some [.int .u64 (uu[uu.length - 1]'(by omega))] := rowGet _ uu (uu.length - 1) (by omega)
    have hlast : (uu.getLast?).getD 0 = uu[uu.length - 1]'(by omega) := by rw [List.getLast?_eq_getElem?, List.getElem?_eq_getElem (by omega)]; rfl
    rw [if_pos h0, hlast]
    generalize uu[uu.length - 1]'(by omega) = x at hg1 ⊢
    iterate 2 (conv => whnf; try simp only [List.append_assoc, List.cons_append, List.nil_append, List.length_append, List.length_cons, List.length_nil, Nat.zero_add, Nat.add_assoc, Nat.reduceAdd, ga0, ga1, ga2, ga3, ga4, ga5, sa0, sa1, sa2, sa3, sa4, sa5, S2.setH_H, List.all_cons, List.all_nil, isDefd, nodupB, List.any_nil, Bool.and_true, Bool.not_false, List.foldl_cons, List.foldl_nil])
    rw [hwi]
    refine grd_intro hd0 (optK_intro hg1 ?_)
    iterate 2 (conv => whnf; try simp only [List.append_assoc, List.cons_append, List.nil_append, List.length_append, List.length_cons, List.length_nil, Nat.zero_add, Nat.add_assoc, Nat.reduceAdd, ga0, ga1, ga2, ga3, ga4, ga5, sa0, sa1, sa2, sa3, sa4, sa5, S2.setH_H, List.all_cons, List.all_nil, isDefd, nodupB, List.any_nil, Bool.and_true, Bool.not_false, List.foldl_cons, List.foldl_nil])
    have hw2 := fun (H2 : Heap) (h : H2[k]? = some (wkB ⟨who, us, s, nn, tx, gets, most⟩ c (.dat 0 [] .tight) ue)) => wwith_ct G H2 k ⟨who, us, s, nn, tx, gets, most⟩ c _ ue (fun n => .dat _ _ _) h 0 (x, []) hb
    refine Call2.mono (hw2 _ (by rw [List.set_set, List.getElem?_set_self (hkl2 _)]; rfl)) fun r0 H0 h => ?_
    obtain ⟨h1, h2⟩ := h
    rw [h1, h2]
    clear h1 h2 r0 H0
    iterate 2 (conv => whnf; try simp only [List.append_assoc, List.cons_append, List.nil_append, List.length_append, List.length_cons, List.length_nil, Nat.zero_add, Nat.add_assoc, Nat.reduceAdd, ga0, ga1, ga2, ga3, ga4, ga5, sa0, sa1, sa2, sa3, sa4, sa5, S2.setH_H, List.all_cons, List.all_nil, isDefd, nodupB, List.any_nil, Bool.and_true, Bool.not_false, List.foldl_cons, List.foldl_nil])
    refine ⟨.tup [], _, CutW.at hkl (x := wkB ⟨who, us, s, nn, tx, gets, most⟩ (withC c 0 (x, [])) (.dat 0 [] .tight) ue) ?_ (fun id h1 h2 => ?_) (wkB_bw _ _ _ _ _ (.dat _ _ _)), .free (.tup _ (by simp)), rfl, rfl⟩
    · rw [List.set_set, List.set_set, List.getElem?_set_self (hkl2 _)]
    · rw [List.set_set, List.set_set, List.getElem?_set_ne (fun h => h1 h.symm), List.getElem?_append_left h2]
  · refine br_f (show decide (ue = 0) = false from decide_eq_false h0) ?_
    rw [if_neg h0]
    iterate 2 (conv => whnf; try simp only [List.append_assoc, List.cons_append, List.nil_append, List.length_append, List.length_cons, List.length_nil, Nat.zero_add, Nat.add_assoc, Nat.reduceAdd, ga0, ga1, ga2, ga3, ga4, ga5, sa0, sa1, sa2, sa3, sa4, sa5, S2.setH_H, List.all_cons, List.all_nil, isDefd, nodupB, List.any_nil, Bool.and_true, Bool.not_false, List.foldl_cons, List.foldl_nil])
    refine ⟨.tup [], _, CutW.at hkl (x := wkB ⟨who, us, s, nn, tx, gets, most⟩ c (.dat 0 [] .tight) ue) ?_ (fun id h1 h2 => ?_) (wkB_bw _ _ _ _ _ (.dat _ _ _)), .free (.tup _ (by simp)), rfl, rfl⟩
    · rw [List.set_set, List.getElem?_set_self (hkl2 _)]; rfl
    · rw [List.set_set, List.getElem?_set_ne (fun h => h1 h.symm), List.getElem?_append_left h2]
end Go.Abs.Sig

/-! LC8 -/
namespace Go.Abs.Sig
open Go.RowKit Go.Abs
set_option linter.unusedSimpArgs false
set_option linter.unusedVariables false
set_option maxRecDepth 8000
attribute [local irreducible] StCall StYield WPc Weak IterOf Lp2

theorem wreject_ct (G : Nat → Option (List V)) (H : Heap) (hH : H.all noClsB = true) (k : Nat) (l : LeaseL) (c : Cm) (hk : H[k]? = some (wkB l c (.dat 0 [] .tight) 0)) (hl : l.t.l.length * 16 ≤ maxBytes) (hr : Rising l.t.l) (hb : c.1.2.2.length * 24 ≤ maxBytes)
    (hne : (setL l.t (argOf c.1 0).1 false).2.2 = 0 → (setL l.t (argOf c.1 0).1 false).2.1 ≠ []) (hlen : (setL l.t (argOf c.1 0).1 false).2.1.length ≤ maxBytes) :
    Call2 Go.Proofs.Tryz.prog G 56 [.ptr k 0] H fun r H' => H' = H.set k (wkB (wSettle l c false).1 (wSettle l c false).2.1 (.dat 0 [] .tight) (wSettle l c false).2.2) ∧ r = .tup [] := by
  have hs := wsettle_ct G H hH k l c false hk hl hr hb hne hlen
  generalize wSettle l c false = u at hs ⊢
  refine stCall2 Go.Proofs.Tryz.func56 rfl (by decide) ?_
  conv => whnf
  refine Call2.mono (hs) fun r0 H0 h => ?_
  obtain ⟨h1, h2⟩ := h
  rw [h1, h2]
  clear h1 h2 r0 H0
  conv => whnf
  exact ⟨rfl, rfl⟩
theorem wack_ct (G : Nat → Option (List V)) (H : Heap) (hH : H.all noClsB = true) (k : Nat) (l : LeaseL) (c : Cm) (hk : H[k]? = some (wkB l c (.dat 0 [] .tight) 0)) (hl : l.t.l.length * 16 ≤ maxBytes) (hr : Rising l.t.l) (hb : c.1.2.2.length * 24 ≤ maxBytes)
    (hne : ∀ many, (setL l.t (argOf c.1 0).1 many).2.2 = 0 → (setL l.t (argOf c.1 0).1 many).2.1 ≠ []) (hlen : ∀ many, (setL l.t (argOf c.1 0).1 many).2.1.length ≤ maxBytes) :
    Call2 Go.Proofs.Tryz.prog G 55 [.ptr k 0] H fun r H' => H' = H.set k (wkB (wSettle l c (decide ((argOf c.1 1).1 ≠ 0))).1 (wSettle l c (decide ((argOf c.1 1).1 ≠ 0))).2.1 (.dat 0 [] .tight) (wSettle l c (decide ((argOf c.1 1).1 ≠ 0))).2.2) ∧ r = .tup [] := by
  have hs := wsettle_ct G H hH k l c (decide ((argOf c.1 1).1 ≠ 0)) hk hl hr hb (hne _) (hlen _)
  have hn := num_ct G H k l c _ 0 hk 1
  generalize wSettle l c (decide ((argOf c.1 1).1 ≠ 0)) = u at hs ⊢
  generalize (argOf c.1 1).1 = n at hs hn
  refine stCall2 Go.Proofs.Tryz.func55 rfl (by decide) ?_
  conv => whnf
  refine Call2.mono (hn) fun r0 H0 h => ?_
  obtain ⟨h1, h2⟩ := h
  rw [h1, h2]
  clear h1 h2 r0 H0
  conv => whnf
  refine Call2.mono (hs) fun r0 H0 h => ?_
  obtain ⟨h1, h2⟩ := h
  rw [h1, h2]
  clear h1 h2 r0 H0
  conv => whnf
  exact ⟨rfl, rfl⟩

/-! what settling answers: the plain part -/
theorem setL_len (t : TagsL) (m : Int) (many : Bool) : (setL t m many).2.1.length ≤ t.l.length := by
  unfold setL
  cases (setR t.l m many).2.2
  · simp
  · simp only [upsOf, List.length_map, List.length_drop, List.length_take]
    omega
theorem plL_lt {l : List (Int × Int)} {m : Int} (h : plL l m = true) : cntL l m < l.length := by
  unfold plL at h
  cases hx : l[cntL l m]? with
  | none => rw [hx] at h; cases h
  | some x => exact (List.getElem?_eq_some_iff.1 hx).1
theorem setR_ok {l : List (Int × Int)} {m : Int} {many : Bool} (h : (setR l m many).2.2 = true) : (setR l m many).1 < (setR l m many).2.1 ∧ (setR l m many).2.1 ≤ l.length := by
  unfold setR at h ⊢
  cases many with
  | false =>
    have := plL_lt (show plL l m = true from h)
    exact ⟨by show cntL l m < cntL l m + 1; omega, by show cntL l m + 1 ≤ _; omega⟩
  | true =>
    simp only at h ⊢
    split at h
    · rename_i h0
      rw [if_pos h0]
      exact ⟨of_decide_eq_true h, Nat.le_refl _⟩
    · rename_i h0
      rw [if_neg h0]
      have := plL_lt (show plL l m = true from h)
      exact ⟨by show 0 < cntL l m + 1; omega, by show cntL l m + 1 ≤ _; omega⟩
theorem setL_ne (t : TagsL) (m : Int) (many : Bool) (h : (setL t m many).2.2 = 0) : (setL t m many).2.1 ≠ [] := by
  unfold setL at h ⊢
  cases hb : (setR t.l m many).2.2 with
  | false => rw [hb] at h; exact absurd h (show ¬((13 : Int) = 0) by decide)
  | true =>
    obtain ⟨h1, h2⟩ := setR_ok hb
    intro h3
    have h4 := congrArg List.length h3
    simp only [upsOf, List.length_map, List.length_drop, List.length_take, List.length_nil] at h4
    omega
end Go.Abs.Sig

/-! LA1 -/
namespace Go.Abs.Sig
open Go.RowKit Go.Abs
set_option linter.unusedSimpArgs false
set_option linter.unusedVariables false
set_option maxRecDepth 8000
attribute [local irreducible] StCall StYield WPc Weak IterOf Lp2

def fnv (g : Nat) : V := .fn (.func g) [] []
def k2 (a b : Int) : V := .agg [.int .i64 a, .int .i64 b]
/-- What goes out: the functions by method. -/
def outsE : List (V × V) :=
  [(k2 60 20, fnv 51), (k2 60 30, fnv 52), (k2 60 40, fnv 53), (k2 60 70, fnv 54), (k2 60 80, fnv 55), (k2 60 120, fnv 55), (k2 60 90, fnv 56), (k2 60 100, fnv 57), (k2 60 110, fnv 57), (k2 85 10, fnv 58),
   (k2 90 10, fnv 59), (k2 90 20, fnv 60), (k2 90 30, fnv 60)]
def insE : List (V × V) :=
  [(k2 60 21, fnv 61), (k2 60 31, fnv 62), (k2 60 60, fnv 63), (k2 60 71, fnv 64), (k2 60 72, fnv 65), (k2 60 80, fnv 66), (k2 60 120, fnv 66)]

theorem outs_ct (G : Nat → Option (List V)) (H : Heap) : Call2 Go.Proofs.Tryz.prog G 25 [] H fun r H' => ∃ es : List (V × V), es.Perm outsE ∧ r = .mp H.length ∧ H' = H ++ [some (.map es es.length)] := by
  refine stCall2 Go.Proofs.Tryz.func25 rfl (by decide) ?_
  conv => whnf
  intro hw
  refine wpc_drawM2 0 1 [2, 4, 6, 8, 10, 12, 14, 16, 18, 20, 22, 24, 26] (by rfl) (by kernel_rfl) (by kernel_rfl) hw ?_
  conv => whnf
  intro es hes
  conv => whnf
  exact ⟨es, hes, rfl, rfl⟩

theorem ins_ct (G : Nat → Option (List V)) (H : Heap) : Call2 Go.Proofs.Tryz.prog G 30 [] H fun r H' => ∃ es : List (V × V), es.Perm insE ∧ r = .mp H.length ∧ H' = H ++ [some (.map es es.length)] := by
  refine stCall2 Go.Proofs.Tryz.func30 rfl (by decide) ?_
  conv => whnf
  intro hw
  refine wpc_drawM2 0 1 [2, 4, 6, 8, 10, 12, 14] (by rfl) (by kernel_rfl) (by kernel_rfl) hw ?_
  conv => whnf
  intro es hes
  conv => whnf
  exact ⟨es, hes, rfl, rfl⟩

end Go.Abs.Sig

/-! LC9 -/
namespace Go.Abs.Sig
open Go.RowKit Go.Abs
set_option linter.unusedSimpArgs false
set_option linter.unusedVariables false
set_option maxRecDepth 8000
attribute [local irreducible] StCall StYield WPc Weak IterOf Lp2

theorem wplace_ct (G : Nat → Option (List V)) (H : Heap) (k : Nat) (l : LeaseL) (c : Cm) (out : V) (e : Int) (hk : H[k]? = some (wkB l c out e)) :
    Call2 Go.Proofs.Tryz.prog G 26 [.ptr k 0] H fun r H' => H' = H ∧ r = k2 c.1.1 c.1.2.1 := by
  obtain ⟨⟨mc, mi, ml⟩, hd, bd⟩ := c
  refine Call2.inScope ⟨_, Go.Proofs.Tryz.func26, rfl, by decide⟩ fun hs => ?_
  refine Call2.cut ?_
  refine stCall2 Go.Proofs.Tryz.func26 rfl (by decide) ?_
  conv => whnf
  intro hw
  refine wpc_draw2 13 (by rfl) (by decide) (by decide) hw ?_
  conv => whnf
  rw [get_app hk]
  conv => whnf
  rw [get_app hk]
  iterate 3 (conv => whnf; try simp only [List.append_assoc, List.cons_append, List.nil_append, List.length_append, List.length_cons, List.length_nil, Nat.zero_add, Nat.add_assoc, Nat.reduceAdd, ga0, ga1, ga2, ga3, ga4, ga5, sa0, sa1, sa2, sa3, sa4, sa5, S2.setH_H, List.all_cons, List.all_nil, isDefd, nodupB, List.any_nil, Bool.and_true, Bool.not_false, List.foldl_cons, List.foldl_nil])
  have hf : (V.agg [.int .i64 mc, .int .i64 mi]).Free := .agg _ (by
    intro v hv
    simp only [List.mem_cons, List.not_mem_nil, or_false] at hv
    rcases hv with rfl | rfl
    · exact .im _
    · exact .im _)
  exact ⟨H, Cut.app hs rfl, .free hf, rfl, rfl⟩

/-- The first get comes off. -/
def wFirst (l : LeaseL) (e : Int) : LeaseL × Int × Bool × Bool := match l.gets with
  | [] => (l, 16, false, false)
  | f :: r => ({ l with gets := r }, e, f, true)
theorem wfirst_ct (G : Nat → Option (List V)) (H : Heap) (k : Nat) (l : LeaseL) (c : Cm) (e : Int) (hk : H[k]? = some (wkB l c (.dat 0 [] .tight) e)) :
    Call2 Go.Proofs.Tryz.prog G 95 [.ptr k 0] H fun r H' => H' = H.set k (wkB (wFirst l e).1 c (.dat 0 [] .tight) (wFirst l e).2.1) ∧ r = .tup [.bool (wFirst l e).2.2.1, .bool (wFirst l e).2.2.2] := by
  have hkl := lt_of_get hk
  obtain ⟨who, t, s, nn, tx, gets, most⟩ := l
  have fr : ∀ a b : Bool, (V.tup [.bool a, .bool b]).Free := fun a b => .tup _ (by
    intro v hv
    simp only [List.mem_cons, List.not_mem_nil, or_false] at hv
    rcases hv with rfl | rfl
    · exact .im _
    · exact .im _)
  refine Call2.cutW ?_
  cases gets with
  | nil =>
    refine stCall2 Go.Proofs.Tryz.func95 rfl (by decide) ?_
    conv => whnf
    rw [hk]
    conv => whnf
    rw [hk]
    conv => whnf
    refine ⟨_, _, CutW.at hkl (x := wkB ⟨who, t, s, nn, tx, [], most⟩ c (.dat 0 [] .tight) 16) ?_ (fun id h1 h2 => ?_) (wkB_bw _ _ _ _ _ (.dat _ _ _)), .free (fr false false), rfl, rfl⟩
    · rw [List.getElem?_set_self hkl]; rfl
    · rw [List.getElem?_set_ne (fun h => h1 h.symm)]
  | cons f r =>
    refine stCall2 Go.Proofs.Tryz.func95 rfl (by decide) ?_
    have hvl : (boolR (f :: r)).length = r.length + 1 := by simp [boolR]
    conv => whnf
    rw [hk]
    conv => whnf
    rw [show decide (((boolR (f :: r)).length : Int) = 0) = false from decide_eq_false (by rw [hvl]; omega)]
    conv => whnf
    rw [hk]
    conv => whnf
    intro hw
    refine wpc_draw2 21 (by rfl) (by decide) (by decide) hw ?_
    conv => whnf
    rw [hk]
    conv => whnf
    rw [hk]
    conv => whnf
    rw [hk]
    conv => whnf
    refine ⟨⟨.inr rfl, by decide, by show (1 : Int) ≤ ((boolR (f :: r)).length : Int); rw [hvl]; omega, rfl, Int.le_refl _⟩, ?_⟩
    have hsl : List.drop (Int.toNat 1) (List.take (Int.toNat ((boolR (f :: r)).length : Int)) (boolR (f :: r))) = boolR r := by simp [boolR]; exact List.take_of_length_le (by simp)
    rw [hsl]
    conv => whnf
    rw [hk]
    conv => whnf
    refine ⟨_, _, CutW.at hkl (x := some (.cells 72 (wkV ⟨who, t, s, nn, tx, r, most⟩ (.dat 2 (tagR t.l) .no) (.dat 1 (numR s.l) .no) (.dat 3 (nmR nn.l) .no) (.dat 1 (boolR r) .tight) c (.dat 0 [] .tight) e))) ?_ (fun id h1 h2 => ?_)
      (wkV_bw (.dat _ _ _) (.dat _ _ _) (.dat _ _ _) (.no _ _ _) (.dat _ _ _)), .free (fr f true), rfl, rfl⟩
    · rw [List.getElem?_set_self hkl]; rfl
    · rw [List.getElem?_set_ne (fun h => h1 h.symm)]
end Go.Abs.Sig

/-! LF1 -/
namespace Go.Abs.Sig
open Go.RowKit Go.Abs
set_option linter.unusedSimpArgs false
set_option linter.unusedVariables false
set_option maxRecDepth 8000
attribute [local irreducible] StCall StYield WPc Weak IterOf Lp2

/-- The command as it is now is told: the first of all. -/
theorem wtell_ct (G : Nat → Option (List V)) (H : Heap) (k : Nat) (l : LeaseL) (c : Cm) (e : Int) (hk : H[k]? = some (wkB l c (.dat 0 [] .tight) e)) :
    Call2 Go.Proofs.Tryz.prog G 31 [.ptr k 0] H fun r H' => H' = H.set k (wkB l c (.dat 8 [ccells c] .no) e) ∧ r = .tup [] := by
  have hkl := lt_of_get hk
  obtain ⟨who, t, s, nn, tx, gets, most⟩ := l
  refine Call2.cutW ?_
  refine stCall2 Go.Proofs.Tryz.func31 rfl (by decide) ?_
  conv => whnf
  intro hw
  refine wpc_draw2 13 (by rfl) (by decide) (by decide) hw ?_
  conv => whnf
  rw [hk]
  conv => whnf
  rw [hk]
  conv => whnf
  refine ⟨.inl rfl, .inr rfl, ?_, ?_, ?_, ?_⟩
  · intro r hr
    obtain rfl := List.mem_singleton.1 hr
    rfl
  · show (0 + 1) * ((Go.Proofs.Tryz.prog).types[41]'(by decide)).bytes ≤ maxBytes
    decide
  · show 0 + 1 ≤ maxBytes
    decide
  conv => whnf
  rw [hk]
  conv => whnf
  refine ⟨.tup [], _, CutW.at hkl (x := some (.cells 72 (wkC ⟨who, t, s, nn, tx, gets, most⟩ c (.dat 8 [ccells c] (.cls 12)) e))) ?_ (fun id h1 h2 => ?_)
    (wkV_bw (.dat _ _ _) (.dat _ _ _) (.dat _ _ _) (.dat _ _ _) (.no _ _ _)), .free (.tup _ (by simp)), rfl, rfl⟩
  · rw [List.getElem?_set_self hkl]; rfl
  · rw [List.getElem?_set_ne (fun h => h1 h.symm)]
end Go.Abs.Sig

/-! LF2 -/
namespace Go.Abs.Sig
open Go.RowKit Go.Abs
set_option linter.unusedSimpArgs false
set_option linter.unusedVariables false
set_option maxRecDepth 8000
attribute [local irreducible] StCall StYield WPc Weak IterOf Lp2

theorem get_set_app {H L : Heap} {k : Nat} {b : Option Blk} (hk : k < H.length) (i : Nat) : ((H ++ L).set k b)[H.length + i]? = L[i]? := by
  rw [List.getElem?_set_ne (by omega), List.getElem?_append_right (by omega)]
  congr 1
  omega
theorem get_set_app0 {H L : Heap} {k : Nat} {b : Option Blk} (hk : k < H.length) : ((H ++ L).set k b)[H.length]? = L[0]? := get_set_app hk 0
theorem len_set_app {H L : Heap} {k : Nat} {b : Option Blk} : ((H ++ L).set k b).length = H.length + L.length := by rw [List.length_set, List.length_append]
/-- The client's name for the broker's. -/
def wNamed (l : LeaseL) (c : Cm) (e : Int) : Cm × Int × Nm × Bool := match fromL l.n.l (argOf c.1 0).2 with
  | (x, false) => (c, 16, x, false)
  | (x, true) => (withC c 0 (0, x.1), e, x, true)
theorem wnamed_ct (G : Nat → Option (List V)) (H : Heap) (hH : H.all noClsB = true) (k : Nat) (l : LeaseL) (c : Cm) (e : Int) (hk : H[k]? = some (wkB l c (.dat 0 [] .tight) e)) (hl : l.n.l.length ≤ maxLen) (hb : c.1.2.2.length * 24 ≤ maxBytes) :
    Call2 Go.Proofs.Tryz.prog G 93 [.ptr k 0] H fun r H' => H' = H.set k (wkB l (wNamed l c e).1 (.dat 0 [] .tight) (wNamed l c e).2.1) ∧ r = .tup [.agg (nmcells (wNamed l c e).2.2.1), .bool (wNamed l c e).2.2.2] := by
  have hkl := lt_of_get hk
  have hn := fun (L X : Heap) => text_ct G (H ++ L ++ X) k l c _ e (get_app (get_app hk)) 0
  unfold wNamed
  generalize (argOf c.1 0).2 = s at hn ⊢
  have hs := from_ct G l.n s hl
  generalize fromL l.n.l s = u at hs ⊢
  obtain ⟨x, is⟩ := u
  have hkl2 : ∀ L : Heap, k < (H ++ L).length := fun L => by rw [List.length_append]; omega
  obtain ⟨who, t, sq, nn, tx, gets, most⟩ := l
  refine Call2.cutW ?_
  refine stCall2 Go.Proofs.Tryz.func93 rfl (by decide) ?_
  conv => whnf
  intro hw
  refine wpc_drawG2 [11, 12] [] [] (by rfl) (by decide) (by decide) hw ?_
  conv => whnf
  rw [get_app hk]
  conv => whnf
  refine ⟨_, fun X _ => hn _ X, ?_⟩
  conv => whnf
  refine ⟨_, fun X _ => hs _, ?_⟩
  iterate 3 (conv => whnf; try simp only [List.append_assoc, List.cons_append, List.nil_append, List.length_append, List.length_cons, List.length_nil, Nat.zero_add, Nat.add_assoc, Nat.reduceAdd, ga0, ga1, ga2, ga3, ga4, ga5, sa0, sa1, sa2, sa3, sa4, sa5, S2.setH_H, List.all_cons, List.all_nil, isDefd, nodupB, List.any_nil, Bool.and_true, Bool.not_false, List.foldl_cons, List.foldl_nil])
  refine grd_intro (dqOkL_of (all_app hH rfl) (all_app hH rfl)) ?_
  iterate 3 (conv => whnf; try simp only [List.append_assoc, List.cons_append, List.nil_append, List.length_append, List.length_cons, List.length_nil, Nat.zero_add, Nat.add_assoc, Nat.reduceAdd, ga0, ga1, ga2, ga3, ga4, ga5, sa0, sa1, sa2, sa3, sa4, sa5, S2.setH_H, List.all_cons, List.all_nil, isDefd, nodupB, List.any_nil, Bool.and_true, Bool.not_false, List.foldl_cons, List.foldl_nil])
  cases is
  · iterate 2 (conv => whnf; try simp only [List.append_assoc, List.cons_append, List.nil_append, List.length_append, List.length_cons, List.length_nil, Nat.zero_add, Nat.add_assoc, Nat.reduceAdd, ga0, ga1, ga2, ga3, ga4, ga5, sa0, sa1, sa2, sa3, sa4, sa5, S2.setH_H, List.all_cons, List.all_nil, isDefd, nodupB, List.any_nil, Bool.and_true, Bool.not_false, List.foldl_cons, List.foldl_nil])
    rw [get_app hk]
    iterate 3 (conv => whnf; try simp only [List.append_assoc, List.cons_append, List.nil_append, List.length_append, List.length_cons, List.length_nil, Nat.zero_add, Nat.add_assoc, Nat.reduceAdd, ga0, ga1, ga2, ga3, ga4, ga5, sa0, sa1, sa2, sa3, sa4, sa5, S2.setH_H, List.all_cons, List.all_nil, isDefd, nodupB, List.any_nil, Bool.and_true, Bool.not_false, List.foldl_cons, List.foldl_nil])
    rw [get_set_app hkl 1]
    conv => whnf
    rw [get_set_app0 hkl]
    conv => whnf
    rw [List.getElem?_set_self (by rw [len_set_app]; exact Nat.lt_add_of_pos_right (Nat.zero_lt_succ _))]
    conv => whnf
    refine ⟨.tup [.agg (nmcells x), .bool false], _, CutW.at hkl (x := wkB ⟨who, t, sq, nn, tx, gets, most⟩ c (.dat 0 [] .tight) 16) ?_ (fun id h1 h2 => ?_) (wkB_bw _ _ _ _ _ (.dat _ _ _)), .free (nmfind_free (x, false)), rfl, rfl⟩
    · rw [List.getElem?_set_ne (by omega), List.getElem?_set_self (hkl2 _)]; rfl
    · rw [List.getElem?_set_ne (by omega), List.getElem?_set_ne (fun h => h1 h.symm), List.getElem?_append_left h2]
  · iterate 2 (conv => whnf; try simp only [List.append_assoc, List.cons_append, List.nil_append, List.length_append, List.length_cons, List.length_nil, Nat.zero_add, Nat.add_assoc, Nat.reduceAdd, ga0, ga1, ga2, ga3, ga4, ga5, sa0, sa1, sa2, sa3, sa4, sa5, S2.setH_H, List.all_cons, List.all_nil, isDefd, nodupB, List.any_nil, Bool.and_true, Bool.not_false, List.foldl_cons, List.foldl_nil])
    have hw2 := fun (H2 : Heap) (h : H2[k]? = some (wkB ⟨who, t, sq, nn, tx, gets, most⟩ c (.dat 0 [] .tight) e)) => wwith_ct G H2 k ⟨who, t, sq, nn, tx, gets, most⟩ c _ e (fun n => .dat _ _ _) h 0 (0, x.1) hb
    refine Call2.mono (hw2 _ (get_app hk)) fun r0 H0 h => ?_
    obtain ⟨h1, h2⟩ := h
    rw [h1, h2]
    clear h1 h2 r0 H0
    conv => whnf
    rw [get_set_app hkl 1]
    conv => whnf
    rw [get_set_app0 hkl]
    conv => whnf
    rw [List.getElem?_set_self (by rw [len_set_app]; exact Nat.lt_add_of_pos_right (Nat.zero_lt_succ _))]
    conv => whnf
    refine ⟨.tup [.agg (nmcells x), .bool true], _, CutW.at hkl (x := wkB ⟨who, t, sq, nn, tx, gets, most⟩ (withC c 0 (0, x.1)) (.dat 0 [] .tight) e) ?_ (fun id h1 h2 => ?_) (wkB_bw _ _ _ _ _ (.dat _ _ _)), .free (nmfind_free (x, true)), rfl, rfl⟩
    · rw [List.getElem?_set_ne (by omega), List.getElem?_set_self (hkl2 _)]
    · rw [List.getElem?_set_ne (by omega), List.getElem?_set_ne (fun h => h1 h.symm), List.getElem?_append_left h2]
end Go.Abs.Sig

/-! LK6 -/
namespace Go.Abs.Sig
open Go.RowKit Go.Abs
set_option linter.unusedSimpArgs false
set_option linter.unusedVariables false
set_option maxRecDepth 8000
attribute [local irreducible] StCall StYield WPc Weak IterOf Lp2

/-- A consumer gets its name. -/
def wConsume (l : LeaseL) (c : Cm) : LeaseL × Cm × Int :=
  ({ l with n := (nmAdd l.n (argOf c.1 2).2 (decide ((argOf c.1 4).1 ≠ 0)) l.most).1 }, withC c 2 (0, (nmAdd l.n (argOf c.1 2).2 (decide ((argOf c.1 4).1 ≠ 0)) l.most).2.1.2.1), (nmAdd l.n (argOf c.1 2).2 (decide ((argOf c.1 4).1 ≠ 0)) l.most).2.2)
theorem wconsume_ct (G : Nat → Option (List V)) (hG0 : G 0 = some powV) (hG1 : G 1 = some wV) (H : Heap) (hH : H.all noClsB = true) (k : Nat) (l : LeaseL) (c : Cm) (e : Int) (hk : H[k]? = some (wkB l c (.dat 0 [] .tight) e))
    (hw : l.n.who < 9223372036854775808) (hm0 : 0 ≤ l.n.made) (hm1 : l.n.made < 18446744073709551616) (hl : (l.n.l.length + 1) * 40 ≤ maxBytes) (hmine : (argOf c.1 2).2.length ≤ maxBytes) (hb : c.1.2.2.length * 24 ≤ maxBytes) :
    Call2 Go.Proofs.Tryz.prog G 51 [.ptr k 0] H fun r H' => H' = H.set k (wkB (wConsume l c).1 (wConsume l c).2.1 (.dat 0 [] .tight) (wConsume l c).2.2) ∧ r = .tup [] := by
  have hkl := lt_of_get hk
  have ht := fun X => text_ct G (H ++ X) k l c _ e (get_app hk) 2
  have hn := fun X => num_ct G (H ++ X) k l c _ e (get_app hk) 4
  unfold wConsume
  have hadd := fun X => add_ct G hG0 hG1 l.n (argOf c.1 2).2 (decide ((argOf c.1 4).1 ≠ 0)) l.most hw hm0 hm1 hl hmine X
  generalize nmAdd l.n (argOf c.1 2).2 (decide ((argOf c.1 4).1 ≠ 0)) l.most = u at hadd ⊢
  obtain ⟨un, ux, ue⟩ := u
  generalize (argOf c.1 2).2 = m at ht hadd
  generalize (argOf c.1 4).1 = f at hn hadd
  have hkl2 : ∀ L : Heap, k < (H ++ L).length := fun L => by rw [List.length_append]; omega
  obtain ⟨who, t, s, nn, tx, gets, most⟩ := l
  refine Call2.cutW ?_
  refine stCall2 Go.Proofs.Tryz.func51 rfl (by decide) ?_
  conv => whnf
  intro hw1
  refine wpc_drawP2 20 [22, 23] [] _ _ 31 85 _ _ (by rfl) (by decide) (by decide) rfl rfl rfl rfl rfl rfl rfl rfl (by decide) (by decide) hw1 ?_
  conv => whnf
  rw [hk]
  conv => whnf
  refine ⟨_, fun X _ => ht X, ?_⟩
  conv => whnf
  refine ⟨_, fun X _ => hn X, ?_⟩
  conv => whnf
  rw [hk]
  conv => whnf
  refine ⟨_, fun X _ => hadd _, ?_⟩
  conv => whnf
  refine ⟨?_, ?_⟩
  · iterate 3 (conv => whnf; try simp only [List.append_assoc, List.cons_append, List.nil_append, List.length_append, List.length_cons, List.length_nil, Nat.zero_add, Nat.add_assoc, Nat.reduceAdd, ga0, ga1, ga2, ga3, ga4, ga5, sa0, sa1, sa2, sa3, sa4, sa5, S2.setH_H, List.all_cons, List.all_nil, isDefd, nodupB, List.any_nil, Bool.and_true, Bool.not_false, List.foldl_cons, List.foldl_nil])
    refine grd_intro (dqOkL_of (all_app hH rfl) (all_app hH rfl)) ?_
    iterate 3 (conv => whnf; try simp only [List.append_assoc, List.cons_append, List.nil_append, List.length_append, List.length_cons, List.length_nil, Nat.zero_add, Nat.add_assoc, Nat.reduceAdd, ga0, ga1, ga2, ga3, ga4, ga5, sa0, sa1, sa2, sa3, sa4, sa5, S2.setH_H, List.all_cons, List.all_nil, isDefd, nodupB, List.any_nil, Bool.and_true, Bool.not_false, List.foldl_cons, List.foldl_nil])
    refine grd_intro (dqOkL_of (all_app hH rfl) (all_app hH rfl)) ?_
    iterate 3 (conv => whnf; try simp only [List.append_assoc, List.cons_append, List.nil_append, List.length_append, List.length_cons, List.length_nil, Nat.zero_add, Nat.add_assoc, Nat.reduceAdd, ga0, ga1, ga2, ga3, ga4, ga5, sa0, sa1, sa2, sa3, sa4, sa5, S2.setH_H, List.all_cons, List.all_nil, isDefd, nodupB, List.any_nil, Bool.and_true, Bool.not_false, List.foldl_cons, List.foldl_nil])
    rw [get_app hk]
    iterate 3 (conv => whnf; try simp only [List.append_assoc, List.cons_append, List.nil_append, List.length_append, List.length_cons, List.length_nil, Nat.zero_add, Nat.add_assoc, Nat.reduceAdd, ga0, ga1, ga2, ga3, ga4, ga5, sa0, sa1, sa2, sa3, sa4, sa5, S2.setH_H, List.all_cons, List.all_nil, isDefd, nodupB, List.any_nil, Bool.and_true, Bool.not_false, List.foldl_cons, List.foldl_nil])
    rw [set_get (hkl2 _)]
    iterate 3 (conv => whnf; try simp only [List.append_assoc, List.cons_append, List.nil_append, List.length_append, List.length_cons, List.length_nil, Nat.zero_add, Nat.add_assoc, Nat.reduceAdd, ga0, ga1, ga2, ga3, ga4, ga5, sa0, sa1, sa2, sa3, sa4, sa5, S2.setH_H, List.all_cons, List.all_nil, isDefd, nodupB, List.any_nil, Bool.and_true, Bool.not_false, List.foldl_cons, List.foldl_nil])
    rw [List.set_set]
    first | rw [get_set_app hkl 1] | rw [get_set_app0 hkl]
    conv => whnf
    refine Call2.mono (wwith_ct G _ k ⟨who, t, s, un, tx, gets, most⟩ c (.dat 0 [] .tight) ue (fun n => .dat _ _ _) (by rw [List.getElem?_set_self (hkl2 _)]; rfl) 2 (0, ux.2.1) hb) fun r0 H0 h => ?_
    obtain ⟨h1, h2⟩ := h
    rw [h1, h2]
    clear h1 h2 r0 H0
    conv => whnf
    refine ⟨.tup [], _, CutW.at hkl (x := wkB ⟨who, t, s, un, tx, gets, most⟩ (withC c 2 (0, ux.2.1)) (.dat 0 [] .tight) ue) ?_ (fun id h1 h2 => ?_) (wkB_bw _ _ _ _ _ (.dat _ _ _)), .free (.tup _ (by simp)), rfl, rfl⟩
    · rw [List.set_set, List.getElem?_set_self (hkl2 _)]
    · rw [List.set_set, List.getElem?_set_ne (fun h => h1 h.symm), List.getElem?_append_left h2]
  · iterate 3 (conv => whnf; try simp only [List.append_assoc, List.cons_append, List.nil_append, List.length_append, List.length_cons, List.length_nil, Nat.zero_add, Nat.add_assoc, Nat.reduceAdd, ga0, ga1, ga2, ga3, ga4, ga5, sa0, sa1, sa2, sa3, sa4, sa5, S2.setH_H, List.all_cons, List.all_nil, isDefd, nodupB, List.any_nil, Bool.and_true, Bool.not_false, List.foldl_cons, List.foldl_nil])
    refine grd_intro (dqOkL_of (all_app hH rfl) (all_app hH rfl)) ?_
    iterate 3 (conv => whnf; try simp only [List.append_assoc, List.cons_append, List.nil_append, List.length_append, List.length_cons, List.length_nil, Nat.zero_add, Nat.add_assoc, Nat.reduceAdd, ga0, ga1, ga2, ga3, ga4, ga5, sa0, sa1, sa2, sa3, sa4, sa5, S2.setH_H, List.all_cons, List.all_nil, isDefd, nodupB, List.any_nil, Bool.and_true, Bool.not_false, List.foldl_cons, List.foldl_nil])
    refine grd_intro (dqOkL_of (all_app hH rfl) (all_app hH rfl)) ?_
    iterate 3 (conv => whnf; try simp only [List.append_assoc, List.cons_append, List.nil_append, List.length_append, List.length_cons, List.length_nil, Nat.zero_add, Nat.add_assoc, Nat.reduceAdd, ga0, ga1, ga2, ga3, ga4, ga5, sa0, sa1, sa2, sa3, sa4, sa5, S2.setH_H, List.all_cons, List.all_nil, isDefd, nodupB, List.any_nil, Bool.and_true, Bool.not_false, List.foldl_cons, List.foldl_nil])
    rw [get_app hk]
    iterate 3 (conv => whnf; try simp only [List.append_assoc, List.cons_append, List.nil_append, List.length_append, List.length_cons, List.length_nil, Nat.zero_add, Nat.add_assoc, Nat.reduceAdd, ga0, ga1, ga2, ga3, ga4, ga5, sa0, sa1, sa2, sa3, sa4, sa5, S2.setH_H, List.all_cons, List.all_nil, isDefd, nodupB, List.any_nil, Bool.and_true, Bool.not_false, List.foldl_cons, List.foldl_nil])
    rw [set_get (hkl2 _)]
    iterate 3 (conv => whnf; try simp only [List.append_assoc, List.cons_append, List.nil_append, List.length_append, List.length_cons, List.length_nil, Nat.zero_add, Nat.add_assoc, Nat.reduceAdd, ga0, ga1, ga2, ga3, ga4, ga5, sa0, sa1, sa2, sa3, sa4, sa5, S2.setH_H, List.all_cons, List.all_nil, isDefd, nodupB, List.any_nil, Bool.and_true, Bool.not_false, List.foldl_cons, List.foldl_nil])
    rw [List.set_set]
    first | rw [get_set_app hkl 1] | rw [get_set_app0 hkl]
    conv => whnf
    refine Call2.mono (wwith_ct G _ k ⟨who, t, s, un, tx, gets, most⟩ c (.dat 0 [] .tight) ue (fun n => .dat _ _ _) (by rw [List.getElem?_set_self (hkl2 _)]; rfl) 2 (0, ux.2.1) hb) fun r0 H0 h => ?_
    obtain ⟨h1, h2⟩ := h
    rw [h1, h2]
    clear h1 h2 r0 H0
    conv => whnf
    refine ⟨.tup [], _, CutW.at hkl (x := wkB ⟨who, t, s, un, tx, gets, most⟩ (withC c 2 (0, ux.2.1)) (.dat 0 [] .tight) ue) ?_ (fun id h1 h2 => ?_) (wkB_bw _ _ _ _ _ (.dat _ _ _)), .free (.tup _ (by simp)), rfl, rfl⟩
    · rw [List.set_set, List.getElem?_set_self (hkl2 _)]
    · rw [List.set_set, List.getElem?_set_ne (fun h => h1 h.symm), List.getElem?_append_left h2]
end Go.Abs.Sig

/-! LK7 -/
namespace Go.Abs.Sig
open Go.RowKit Go.Abs
set_option linter.unusedSimpArgs false
set_option linter.unusedVariables false
set_option maxRecDepth 8000
attribute [local irreducible] StCall StYield WPc Weak IterOf Lp2

/-- A consumer is cancelled, or about to be. -/
def wCancel (l : LeaseL) (c : Cm) (e : Int) : LeaseL × Cm × Int := match toL l.n.l (argOf c.1 0).2 with
  | (x, false) => (l, c, 11)
  | (x, true) => ({ l with n := if (argOf c.1 1).1 ≠ 0 then (dropL l.n x.1).1 else l.n }, withC c 0 (0, x.2.1), e)
theorem wcancel_ct (G : Nat → Option (List V)) (H : Heap) (hH : H.all noClsB = true) (k : Nat) (l : LeaseL) (c : Cm) (e : Int) (hk : H[k]? = some (wkB l c (.dat 0 [] .tight) e))
    (hl : l.n.l.length * 40 ≤ maxBytes) (hb : c.1.2.2.length * 24 ≤ maxBytes) :
    Call2 Go.Proofs.Tryz.prog G 52 [.ptr k 0] H fun r H' => H' = H.set k (wkB (wCancel l c e).1 (wCancel l c e).2.1 (.dat 0 [] .tight) (wCancel l c e).2.2) ∧ r = .tup [] := by
  have hkl := lt_of_get hk
  have hmb : maxBytes = 140737488355328 := rfl
  have hmx : maxLen = 9223372036854775807 := rfl
  have ht := fun (X : Heap) => text_ct G (H ++ X) k l c _ e (get_app hk) 0
  have hn := fun (L : Heap) => num_ct G (H ++ L) k l c _ e (get_app hk) 1
  have hdr := fun x => drop_ct G l.n x hl
  unfold wCancel
  have hto := to_ct G l.n (argOf c.1 0).2 (by omega)
  generalize (argOf c.1 0).2 = m at ht hto ⊢
  generalize (argOf c.1 1).1 = f at hn ⊢
  generalize toL l.n.l m = u at hto ⊢
  obtain ⟨x, is⟩ := u
  have hkl2 : ∀ L : Heap, k < (H ++ L).length := fun L => by rw [List.length_append]; omega
  obtain ⟨who, t, s, nn, tx, gets, most⟩ := l
  refine Call2.cutW ?_
  refine stCall2 Go.Proofs.Tryz.func52 rfl (by decide) ?_
  conv => whnf
  intro hw1
  refine wpc_drawG2 [11, 12] [] [] (by rfl) (by decide) (by decide) hw1 ?_
  conv => whnf
  rw [hk]
  conv => whnf
  refine ⟨_, fun X _ => ht X, ?_⟩
  conv => whnf
  refine ⟨_, fun X _ => hto _, ?_⟩
  iterate 3 (conv => whnf; try simp only [List.append_assoc, List.cons_append, List.nil_append, List.length_append, List.length_cons, List.length_nil, Nat.zero_add, Nat.add_assoc, Nat.reduceAdd, ga0, ga1, ga2, ga3, ga4, ga5, sa0, sa1, sa2, sa3, sa4, sa5, S2.setH_H, List.all_cons, List.all_nil, isDefd, nodupB, List.any_nil, Bool.and_true, Bool.not_false, List.foldl_cons, List.foldl_nil])
  refine grd_intro (dqOkL_of (all_app hH rfl) (all_app hH rfl)) ?_
  iterate 3 (conv => whnf; try simp only [List.append_assoc, List.cons_append, List.nil_append, List.length_append, List.length_cons, List.length_nil, Nat.zero_add, Nat.add_assoc, Nat.reduceAdd, ga0, ga1, ga2, ga3, ga4, ga5, sa0, sa1, sa2, sa3, sa4, sa5, S2.setH_H, List.all_cons, List.all_nil, isDefd, nodupB, List.any_nil, Bool.and_true, Bool.not_false, List.foldl_cons, List.foldl_nil])
  cases is
  · iterate 2 (conv => whnf; try simp only [List.append_assoc, List.cons_append, List.nil_append, List.length_append, List.length_cons, List.length_nil, Nat.zero_add, Nat.add_assoc, Nat.reduceAdd, ga0, ga1, ga2, ga3, ga4, ga5, sa0, sa1, sa2, sa3, sa4, sa5, S2.setH_H, List.all_cons, List.all_nil, isDefd, nodupB, List.any_nil, Bool.and_true, Bool.not_false, List.foldl_cons, List.foldl_nil])
    rw [get_app hk]
    iterate 3 (conv => whnf; try simp only [List.append_assoc, List.cons_append, List.nil_append, List.length_append, List.length_cons, List.length_nil, Nat.zero_add, Nat.add_assoc, Nat.reduceAdd, ga0, ga1, ga2, ga3, ga4, ga5, sa0, sa1, sa2, sa3, sa4, sa5, S2.setH_H, List.all_cons, List.all_nil, isDefd, nodupB, List.any_nil, Bool.and_true, Bool.not_false, List.foldl_cons, List.foldl_nil])
    refine ⟨.tup [], _, CutW.at hkl (x := wkB ⟨who, t, s, nn, tx, gets, most⟩ c (.dat 0 [] .tight) 11) ?_ (fun id h1 h2 => ?_) (wkB_bw _ _ _ _ _ (.dat _ _ _)), .free (.tup _ (by simp)), rfl, rfl⟩
    · rw [List.getElem?_set_self (hkl2 _)]; rfl
    · rw [List.getElem?_set_ne (fun h => h1 h.symm), List.getElem?_append_left h2]
  · iterate 2 (conv => whnf; try simp only [List.append_assoc, List.cons_append, List.nil_append, List.length_append, List.length_cons, List.length_nil, Nat.zero_add, Nat.add_assoc, Nat.reduceAdd, ga0, ga1, ga2, ga3, ga4, ga5, sa0, sa1, sa2, sa3, sa4, sa5, S2.setH_H, List.all_cons, List.all_nil, isDefd, nodupB, List.any_nil, Bool.and_true, Bool.not_false, List.foldl_cons, List.foldl_nil])
    refine Call2.mono (hn _) fun r0 H0 h => ?_
    obtain ⟨h1, h2⟩ := h
    rw [h1, h2]
    clear h1 h2 r0 H0
    conv => whnf
    by_cases hf : f ≠ 0
    · refine br_t (show decide (f ≠ 0) = true from decide_eq_true hf) ?_
      rw [if_pos hf]
      have hd := hdr x.1
      generalize dropL nn x.1 = v at hd ⊢
      obtain ⟨vn, vb⟩ := v
      iterate 3 (conv => whnf; try simp only [List.append_assoc, List.cons_append, List.nil_append, List.length_append, List.length_cons, List.length_nil, Nat.zero_add, Nat.add_assoc, Nat.reduceAdd, ga0, ga1, ga2, ga3, ga4, ga5, sa0, sa1, sa2, sa3, sa4, sa5, S2.setH_H, List.all_cons, List.all_nil, isDefd, nodupB, List.any_nil, Bool.and_true, Bool.not_false, List.foldl_cons, List.foldl_nil])
      intro hw2
      refine wpc_drawG2 [15] [] [] (by rfl) (by decide) (by decide) hw2 ?_
      conv => whnf
      rw [get_app hk]
      iterate 3 (conv => whnf; try simp only [List.append_assoc, List.cons_append, List.nil_append, List.length_append, List.length_cons, List.length_nil, Nat.zero_add, Nat.add_assoc, Nat.reduceAdd, ga0, ga1, ga2, ga3, ga4, ga5, sa0, sa1, sa2, sa3, sa4, sa5, S2.setH_H, List.all_cons, List.all_nil, isDefd, nodupB, List.any_nil, Bool.and_true, Bool.not_false, List.foldl_cons, List.foldl_nil])
      rw [ga0]
      conv => whnf
      refine ⟨_, fun X _ => hd _, ?_⟩
      iterate 3 (conv => whnf; try simp only [List.append_assoc, List.cons_append, List.nil_append, List.length_append, List.length_cons, List.length_nil, Nat.zero_add, Nat.add_assoc, Nat.reduceAdd, ga0, ga1, ga2, ga3, ga4, ga5, sa0, sa1, sa2, sa3, sa4, sa5, S2.setH_H, List.all_cons, List.all_nil, isDefd, nodupB, List.any_nil, Bool.and_true, Bool.not_false, List.foldl_cons, List.foldl_nil])
      rw [get_app hk]
      iterate 3 (conv => whnf; try simp only [List.append_assoc, List.cons_append, List.nil_append, List.length_append, List.length_cons, List.length_nil, Nat.zero_add, Nat.add_assoc, Nat.reduceAdd, ga0, ga1, ga2, ga3, ga4, ga5, sa0, sa1, sa2, sa3, sa4, sa5, S2.setH_H, List.all_cons, List.all_nil, isDefd, nodupB, List.any_nil, Bool.and_true, Bool.not_false, List.foldl_cons, List.foldl_nil])
      refine grd_intro (dqOkL_of (all_app hH rfl) (all_set (all_app hH rfl) rfl)) ?_
      conv => whnf
      rw [get_set_app0 hkl]
      conv => whnf
      refine Call2.mono (wwith_ct G _ k ⟨who, t, s, vn, tx, gets, most⟩ c (.dat 0 [] .tight) e (fun n => .dat _ _ _) (by rw [List.getElem?_set_self (hkl2 _)]; rfl) 0 (0, x.2.1) hb) fun r0 H0 h => ?_
      obtain ⟨h1, h2⟩ := h
      rw [h1, h2]
      clear h1 h2 r0 H0
      conv => whnf
      refine ⟨.tup [], _, CutW.at hkl (x := wkB ⟨who, t, s, vn, tx, gets, most⟩ (withC c 0 (0, x.2.1)) (.dat 0 [] .tight) e) ?_ (fun id h1 h2 => ?_) (wkB_bw _ _ _ _ _ (.dat _ _ _)), .free (.tup _ (by simp)), rfl, rfl⟩
      · rw [List.set_set, List.getElem?_set_self (hkl2 _)]
      · rw [List.set_set, List.getElem?_set_ne (fun h => h1 h.symm), List.getElem?_append_left h2]
    · refine br_f (show decide (f ≠ 0) = false from decide_eq_false hf) ?_
      rw [if_neg hf]
      iterate 3 (conv => whnf; try simp only [List.append_assoc, List.cons_append, List.nil_append, List.length_append, List.length_cons, List.length_nil, Nat.zero_add, Nat.add_assoc, Nat.reduceAdd, ga0, ga1, ga2, ga3, ga4, ga5, sa0, sa1, sa2, sa3, sa4, sa5, S2.setH_H, List.all_cons, List.all_nil, isDefd, nodupB, List.any_nil, Bool.and_true, Bool.not_false, List.foldl_cons, List.foldl_nil])
      refine Call2.mono (wwith_ct G _ k ⟨who, t, s, nn, tx, gets, most⟩ c (.dat 0 [] .tight) e (fun n => .dat _ _ _) (get_app hk) 0 (0, x.2.1) hb) fun r0 H0 h => ?_
      obtain ⟨h1, h2⟩ := h
      rw [h1, h2]
      clear h1 h2 r0 H0
      conv => whnf
      refine ⟨.tup [], _, CutW.at hkl (x := wkB ⟨who, t, s, nn, tx, gets, most⟩ (withC c 0 (0, x.2.1)) (.dat 0 [] .tight) e) ?_ (fun id h1 h2 => ?_) (wkB_bw _ _ _ _ _ (.dat _ _ _)), .free (.tup _ (by simp)), rfl, rfl⟩
      · rw [List.getElem?_set_self (hkl2 _)]
      · rw [List.getElem?_set_ne (fun h => h1 h.symm), List.getElem?_append_left h2]
end Go.Abs.Sig

/-! LK8 -/
namespace Go.Abs.Sig
open Go.RowKit Go.Abs
set_option linter.unusedSimpArgs false
set_option linter.unusedVariables false
set_option maxRecDepth 8000
attribute [local irreducible] StCall StYield WPc Weak IterOf Lp2

/-- What a lease and a command are, of which Out is asked. -/
structure OutOk (l : LeaseL) (c : Cm) : Prop where
  who : l.n.who < 9223372036854775808
  made0 : 0 ≤ l.n.made
  made1 : l.n.made < 18446744073709551616
  nl : (l.n.l.length + 1) * 40 ≤ maxBytes
  tl : (l.t.l.length + 1) * 16 ≤ maxBytes
  rise : Rising l.t.l
  sl : (l.s.l.length + 1) * 8 ≤ maxBytes
  gl : l.gets.length + 1 ≤ maxBytes
  cl : c.1.2.2.length * 24 ≤ maxBytes
  cs : CmS c

/-- What each command does. -/
def actE (g : Nat) (l : LeaseL) (c : Cm) : LeaseL × Cm × Int :=
  if g = 51 then wConsume l c
  else if g = 52 then wCancel l c 0
  else if g = 53 then ((wPublish l).1, c, (wPublish l).2)
  else if g = 54 then ((wGet l (argOf c.1 2).1 0).1, c, (wGet l (argOf c.1 2).1 0).2)
  else if g = 55 then wSettle l c (decide ((argOf c.1 1).1 ≠ 0))
  else if g = 56 then wSettle l c false
  else if g = 57 then (wRecover l, c, 0)
  else if g = 58 then ((wConfirm l).1, c, (wConfirm l).2)
  else if g = 59 then ((wBegin l 0).1, c, (wBegin l 0).2)
  else (l, c, wEnd l 0)
theorem argOf_len {c : Cm} (h : CmS c) (i : Int) : (argOf c.1 i).2.length ≤ maxBytes := by
  unfold argOf
  split
  · exact Nat.zero_le _
  · cases hg : c.1.2.2[i.toNat]? with
    | none => exact Nat.zero_le _
    | some v => exact h.1 v (List.mem_of_getElem? hg)
theorem act_ct (G : Nat → Option (List V)) (hG0 : G 0 = some powV) (hG1 : G 1 = some wV) (H : Heap) (hH : H.all noClsB = true) (k : Nat) (l : LeaseL) (c : Cm) (hk : H[k]? = some (wkB l c (.dat 0 [] .tight) 0)) (h : OutOk l c) :
    ∀ g : Nat, 51 ≤ g → g ≤ 60 → Call2 Go.Proofs.Tryz.prog G g [.ptr k 0] H fun r H' => H' = H.set k (wkB (actE g l c).1 (actE g l c).2.1 (.dat 0 [] .tight) (actE g l c).2.2) ∧ r = .tup [] := by
  have hmb : maxBytes = 140737488355328 := rfl
  have hl := h.tl
  have hlen : ∀ many, (setL l.t (argOf c.1 0).1 many).2.1.length ≤ maxBytes := fun many => by have := setL_len l.t (argOf c.1 0).1 many; omega
  intro g hg1 hg2
  have : g = 51 ∨ g = 52 ∨ g = 53 ∨ g = 54 ∨ g = 55 ∨ g = 56 ∨ g = 57 ∨ g = 58 ∨ g = 59 ∨ g = 60 := by omega
  rcases this with rfl | rfl | rfl | rfl | rfl | rfl | rfl | rfl | rfl | rfl
  · exact wconsume_ct G hG0 hG1 H hH k l c 0 hk h.who h.made0 h.made1 h.nl (argOf_len h.cs 2) h.cl
  · exact wcancel_ct G H hH k l c 0 hk (by have := h.nl; omega) h.cl
  · exact wpublish_ct G H hH k l c 0 hk h.sl
  · exact wget_ct G H hH k l c 0 hk h.gl
  · exact wack_ct G H hH k l c hk (by omega) h.rise h.cl (fun many => setL_ne _ _ _) hlen
  · exact wreject_ct G H hH k l c hk (by omega) h.rise h.cl (setL_ne _ _ _) (hlen _)
  · exact wrecover_ct G H k l c _ 0 (fun n => .dat _ _ _) hk
  · exact wconfirm_ct G H k l c _ 0 hk
  · exact wbegin_ct G H k l c _ 0 (fun n => .dat _ _ _) hk
  · exact wend_ct G H k l c _ 0 (fun n => .dat _ _ _) hk

def outs2 : List (Int × Int × Nat) := [(60, 20, 51), (60, 30, 52), (60, 40, 53), (60, 70, 54), (60, 80, 55), (60, 120, 55), (60, 90, 56), (60, 100, 57), (60, 110, 57), (85, 10, 58), (90, 10, 59), (90, 20, 60), (90, 30, 60)]
theorem outsE_eq : outsE = outs2.map fun x => (k2 x.1 x.2.1, fnv x.2.2) := rfl
theorem outs2_rng : ∀ x ∈ outs2, 51 ≤ x.2.2 ∧ x.2.2 ≤ 60 := by decide
theorem outs2_one : ∀ x ∈ outs2, ∀ y ∈ outs2, x.1 = y.1 → x.2.1 = y.2.1 → x = y := by decide
def outOf (a b : Int) : Option Nat := (outs2.find? fun x => decide (a = x.1) && decide (b = x.2.1)).map (·.2.2)
theorem outOf_some {a b : Int} {x : Int × Int × Nat} (hx : x ∈ outs2) (ha : a = x.1) (hb : b = x.2.1) : outOf a b = some x.2.2 := by
  unfold outOf
  cases hf : outs2.find? fun x => decide (a = x.1) && decide (b = x.2.1) with
  | none =>
    have := List.find?_eq_none.1 hf x hx
    simp [ha, hb] at this
  | some y =>
    have h1 := List.find?_some hf
    have h2 := List.mem_of_find?_eq_some hf
    simp only [Bool.and_eq_true, decide_eq_true_eq] at h1
    rw [outs2_one x hx y h2 (ha.symm.trans h1.1) (hb.symm.trans h1.2)]
    rfl
theorem outOf_none {a b : Int} (h : ∀ x ∈ outs2, ¬(a = x.1 ∧ b = x.2.1)) : outOf a b = none := by
  unfold outOf
  rw [List.find?_eq_none.2 fun x hx => by simpa using fun h1 h2 => h x hx ⟨h1, h2⟩]
  rfl
/-- A client's command, as the broker is told it. -/
def zCm : Cm := ((0, 0, []), zHd, [])
def actL (l : LeaseL) (c : Cm) : LeaseL × Cm × Int := match outOf c.1.1 c.1.2.1 with
  | some g => actE g l c
  | none => (l, c, 0)
def outL (l : LeaseL) (c : Cm) : LeaseL × Cm × Int :=
  if cRight c ≠ 0 then (l, zCm, cRight c)
  else if mayL c.1 1 = false then (l, zCm, 8)
  else if (actL l c).2.2 ≠ 0 then (l, zCm, (actL l c).2.2)
  else ((actL l c).1, (actL l c).2.1, 0)
theorem outR_free (l : LeaseL) (c : Cm) (e : Int) : (V.tup [.agg (leaseC l), .agg (ccells c), .int .i64 e]).Free := .tup _ (by
  intro v hv
  simp only [List.mem_cons, List.not_mem_nil, or_false] at hv
  rcases hv with rfl | rfl | rfl
  · exact .agg _ (leaseC_free' _)
  · exact ccells_free _
  · exact .im _)
def zcV : List V := [.int .i64 0, .int .i64 0, .dat 0 [] .tight, .int .i64 0, .int .u64 0, .int .u64 0, .dat 0 [] .tight, .str []]
theorem outZ_vw (n : Nat) (l : LeaseL) (e : Int) : VW n (.tup [.agg (leaseC l), .agg zcV, .int .i64 e]) (.tup [.agg (leaseC l), .agg (ccells zCm), .int .i64 e]) :=
  VW.tupL (.cons (.free (.agg _ (leaseC_free' _))) (.cons (VW.aggL (.cons (.im _) (.cons (.im _) (.cons vw_nil (.cons (.im _) (.cons (.im _) (.cons (.im _) (.cons vw_nil (.cons (.str _) .nil))))))))) (.cons (.im _) .nil)))
set_option maxHeartbeats 2000000 in
theorem out_ct (G : Nat → Option (List V)) (hG0 : G 0 = some powV) (hG1 : G 1 = some wV) (l : LeaseL) (c : Cm) (h : OutOk l c) (H : Heap) :
    Call2 Go.Proofs.Tryz.prog G 12 [.agg (leaseC l), .agg (ccells c)] H fun r H' => H' = H ∧ r = .tup [.agg (leaseC (outL l c).1), .agg (ccells (outL l c).2.1), .int .i64 (outL l c).2.2] := by
  refine Call2.free (fun x hx => by
    simp only [List.mem_cons, List.not_mem_nil, or_false] at hx
    rcases hx with rfl | rfl
    · exact .agg _ (leaseC_free' _)
    · exact ccells_free _) ?_ H
  refine Call2.weakR ?_
  have hcr := cright_ct G hG1 c h.cs
  have hmay := may_ct G c.1 1 (.inl rfl)
  unfold outL
  generalize cRight c = e0 at hcr ⊢
  generalize mayL c.1 1 = my at hmay ⊢
  refine stCall2 Go.Proofs.Tryz.func12 rfl (by decide) ?_
  conv => whnf
  refine Call2.mono (hcr _) fun r0 H0 h => ?_
  obtain ⟨h1, h2⟩ := h
  rw [h1, h2]
  clear h1 h2 r0 H0
  conv => whnf
  by_cases he : e0 = 0
  · refine br_t (show decide (e0 = 0) = true from decide_eq_true he) ?_
    subst he
    rw [if_neg (by simp)]
    conv => whnf
    refine Call2.mono (hmay _) fun r0 H0 h => ?_
    obtain ⟨h1, h2⟩ := h
    rw [h1, h2]
    clear h1 h2 r0 H0
    conv => whnf
    cases my
    · conv => whnf
      rw [if_pos rfl]
      exact ⟨_, outZ_vw _ l 8, outR_free l zCm 8, rfl⟩
    · rw [if_neg (by simp)]
      conv => whnf
      refine Call2.mono (outs_ct G _) fun r0 H0 hh => ?_
      obtain ⟨es, hp, h1, h2⟩ := hh
      rw [h1, h2]
      clear h1 h2 r0 H0
      conv => whnf
      refine Call2.mono (wplace_ct G _ 4 l c (.dat 0 [] .tight) 0 rfl) fun r0 H0 hh => ?_
      obtain ⟨h1, h2⟩ := hh
      rw [h1, h2]
      clear h1 h2 r0 H0
      conv => whnf
      refine find_any hp (fun x hx => ?_) (fun hno => ?_)
      · rw [outsE_eq] at hx
        obtain ⟨y, hy, rfl⟩ := List.mem_map.1 hx
        refine ⟨decide (c.1.1 = y.1) && decide (c.1.2.1 = y.2.1), rfl, fun hb nn => ?_⟩
        simp only [Bool.and_eq_true, decide_eq_true_eq] at hb
        have ha : actL l c = actE y.2.2 l c := by unfold actL; rw [outOf_some hy hb.1 hb.2]
        have hg := outs2_rng y hy
        rw [ha]
        have hact := fun H hH hk => act_ct G hG0 hG1 H hH 4 l c hk h y.2.2 hg.1 hg.2
        generalize actE y.2.2 l c = u at hact ⊢
        generalize y.2.2 = g at hact ⊢
        obtain ⟨ul, uc, ue⟩ := u
        conv => whnf
        refine Call2.mono (hact _ rfl rfl) fun r0 H0 hh => ?_
        obtain ⟨h1, h2⟩ := hh
        rw [h1, h2]
        clear h1 h2 r0 H0
        conv => whnf
        simp only
        by_cases hu : ue ≠ 0
        · refine br_t (show decide (ue ≠ 0) = true from decide_eq_true hu) ?_
          rw [if_pos hu]
          conv => whnf
          intro hw1
          refine wpc_drawG2 [6, 7] [] [(5, 6), (5, 7)] (by rfl) (by decide) (by decide) hw1 ?_
          conv => whnf
          exact ⟨_, outZ_vw _ l ue, outR_free l zCm ue, rfl⟩
        · refine br_f (show decide (ue ≠ 0) = false from decide_eq_false hu) ?_
          rw [if_neg hu]
          conv => whnf
          intro hw1
          refine wpc_drawG2 [8, 9] [] [(7, 8)] (by rfl) (by decide) (by decide) hw1 ?_
          conv => whnf
          exact ⟨_, .free (outR_free ul uc 0), outR_free ul uc 0, rfl⟩
      · have ha : actL l c = (l, c, 0) := by
          unfold actL
          rw [outOf_none fun x hx hh => by
            have h1 := hno (k2 x.1 x.2.1, fnv x.2.2) (by rw [outsE_eq]; exact List.mem_map.2 ⟨x, hx, rfl⟩)
            have h2 : keyEq (k2 c.1.1 c.1.2.1) (k2 x.1 x.2.1) = some (decide (c.1.1 = x.1) && decide (c.1.2.1 = x.2.1)) := rfl
            have h3 := h2.symm.trans h1
            rw [hh.1, hh.2] at h3
            simp at h3]
        rw [ha, if_neg (by simp)]
        conv => whnf
        intro hw1
        refine wpc_drawG2 [8, 9] [] [(7, 8)] (by rfl) (by decide) (by decide) hw1 ?_
        conv => whnf
        exact ⟨_, .free (outR_free l c 0), outR_free l c 0, rfl⟩
  · refine br_f (show decide (e0 = 0) = false from decide_eq_false he) ?_
    rw [if_pos he]
    conv => whnf
    refine br_t (show decide (e0 ≠ 0) = true from decide_eq_true he) ?_
    conv => whnf
    exact ⟨_, outZ_vw _ l e0, outR_free l zCm e0, rfl⟩
end Go.Abs.Sig

/-! LK9 -/
namespace Go.Abs.Sig
open Go.RowKit Go.Abs
set_option linter.unusedSimpArgs false
set_option linter.unusedVariables false
set_option maxRecDepth 8000
attribute [local irreducible] StCall StYield WPc Weak IterOf Lp2

/-! the document's example -/
def shC : Cm := ((60, 20, [(0, []), (0, [113]), (0, [120]), (0, []), (0, []), (0, []), (0, []), (0, [0, 0, 0, 0])]), zHd, [])
def shL : LeaseL := ⟨7, ⟨1, 0, []⟩, ⟨false, 0, 0, []⟩, ⟨7, 0, []⟩, false, [], 9⟩
theorem shC_right : cRight shC = 0 := by decide +kernel
theorem shC_may : mayL shC.1 1 = true := by decide +kernel
theorem sh_up : upL 7 [120] = ([55, 47, 120], 0) := by
  unfold upL upS
  rw [if_neg (by decide), if_neg (by simp), show (7 : Int).toNat = 7 from rfl, fig_small (by omega)]
  rfl
theorem sh_out : (outL shL shC).2.2 = 0 ∧ (outL shL shC).2.1.1.2.2 = [(0, []), (0, [113]), (0, [55, 47, 120]), (0, []), (0, []), (0, []), (0, []), (0, [0, 0, 0, 0])] := by
  have ha : actL shL shC = wConsume shL shC := rfl
  have hm : (argOf shC.1 2).2 = [120] := rfl
  have hn : nmAdd shL.n [120] (decide ((argOf shC.1 4).1 ≠ 0)) shL.most = (⟨7, 0, [([120], [55, 47, 120], false)]⟩, ([120], [55, 47, 120], false), 0) := by
    unfold nmAdd
    rw [if_neg (by decide), if_neg (by simp), if_neg (by decide)]
    unfold nmPut
    rw [show shL.n.who = 7 from rfl, sh_up]
    rfl
  have hw : wConsume shL shC = ({ shL with n := ⟨7, 0, [([120], [55, 47, 120], false)]⟩ }, withC shC 2 (0, [55, 47, 120]), 0) := by
    unfold wConsume
    rw [hm, hn]
  unfold outL
  rw [shC_right, shC_may, ha, hw, if_neg (by simp), if_neg (by simp), if_neg (by simp)]
  exact ⟨rfl, rfl⟩
theorem sh_ok : OutOk shL shC := by
  refine ⟨by decide, by decide, by decide, by decide, by decide, by simp [Rising, shL], by decide, by decide, by decide, ⟨?_, ?_, by decide, by decide⟩⟩
  · intro v hv
    simp only [shC, List.mem_cons, List.not_mem_nil, or_false] at hv
    rcases hv with rfl | rfl | rfl | rfl | rfl | rfl | rfl | rfl <;> decide
  · intro v hv
    simp [shC, zHd] at hv
theorem shown18_ct (G : Nat → Option (List V)) (hG0 : G 0 = some powV) (hG1 : G 1 = some wV) (H : Heap) : Call2 Go.Proofs.Tryz.prog G 10 [] H fun r H' => H' = H ∧ r = .bool true := by
  refine Call2.free (fun x hx => by cases hx) ?_ H
  have hnew := new_ct G 7 9
  have hn : newL 7 9 = (shL, 0) := rfl
  rw [hn] at hnew
  have hout := out_ct G hG0 hG1 shL shC sh_ok
  obtain ⟨h1, h2⟩ := sh_out
  generalize outL shL shC = u at hout h1 h2
  obtain ⟨ul, ⟨⟨ua, ub, uv⟩, uh, ubd⟩, ue⟩ := u
  simp only at h1 h2
  subst h1
  subst h2
  refine stCall2 Go.Proofs.Tryz.func10 rfl (by decide) ?_
  conv => whnf
  refine Call2.mono (hnew _) fun r0 H0 h => ?_
  obtain ⟨h1, h2⟩ := h
  rw [h1, h2]
  clear h1 h2 r0 H0
  conv => whnf
  refine Call2.weakA (args' := [.agg (leaseC shL), .agg (ccells shC)]) ?_ ?_
  · have hv : ∀ n, VWs n [.agg (leaseC shL), .agg [.int .i64 60, .int .i64 20, .dat 2 (vals shC.1.2.2) .tight, .int .i64 0, .int .u64 0, .int .u64 0, .dat 0 [] .tight, .str []]] [.agg (leaseC shL), .agg (ccells shC)] := fun n =>
      .cons (.free (.agg _ (leaseC_free' _))) (.cons (VW.aggL (.cons (.im _) (.cons (.im _) (.cons (.no _ _ _) (.cons (.im _) (.cons (.im _) (.cons (.im _) (.cons vw_nil (.cons (.str _) .nil))))))))) .nil)
    exact hv _
  refine Call2.mono (hout _) fun r0 H0 h => ?_
  obtain ⟨h1, h2⟩ := h
  rw [h1, h2]
  clear h1 h2 r0 H0
  conv => whnf
  exact ⟨.im _, rfl⟩
end Go.Abs.Sig

/-! LSH1 -/
namespace Go.Abs.Sig
open Go.RowKit Go.Abs Go.ChangeShapes Go.WideShapes Go.ChangeAt
set_option linter.unusedSimpArgs false
set_option linter.unusedVariables false
set_option maxRecDepth 8000

theorem reach_le : reachBytes ≤ maxBytes := by decide

theorem sh_int {n : Nat} {t : TypeId} {k : IntKind} {vs : List V} (hu : Program.underlying Go.Proofs.Tryz.prog t = some (.int k)) (h : Sh Go.Proofs.Tryz.prog (n + 1) t vs) : ∃ x, vs = [.im (.int k x)] ∧ (Lit.int k x).wf = true := by
  unfold Sh at h
  rw [hu] at h
  exact h
theorem sh_bool {n : Nat} {t : TypeId} {vs : List V} (hu : Program.underlying Go.Proofs.Tryz.prog t = some .bool) (h : Sh Go.Proofs.Tryz.prog (n + 1) t vs) : ∃ b, vs = [.im (.bool b)] := by
  unfold Sh at h
  rw [hu] at h
  exact h
theorem sh_str {n : Nat} {t : TypeId} {vs : List V} (hu : Program.underlying Go.Proofs.Tryz.prog t = some .string) (h : Sh Go.Proofs.Tryz.prog (n + 1) t vs) : ∃ l : List UInt8, vs = [.str l] ∧ l.length ≤ maxBytes := by
  unfold Sh at h
  rw [hu] at h
  obtain ⟨l, h1, h2⟩ := h
  exact ⟨l, h1, Nat.le_trans h2 reach_le⟩
theorem sh_slice {n : Nat} {t e : TypeId} {vs : List V} (hu : Program.underlying Go.Proofs.Tryz.prog t = some (.slice e)) (h : Sh Go.Proofs.Tryz.prog (n + 1) t vs) : ∃ rows, vs = [.dat (Program.cellsOf Go.Proofs.Tryz.prog e) rows .no] ∧ rows.length * Program.bytesOf Go.Proofs.Tryz.prog e ≤ reachBytes ∧ ∀ r ∈ rows, Sh Go.Proofs.Tryz.prog n e r := by
  unfold Sh at h
  rw [hu] at h
  exact h
theorem sh_struct {n : Nat} {t : TypeId} {fs : Array Field} {vs : List V} (hu : Program.underlying Go.Proofs.Tryz.prog t = some (.struct fs)) (h : Sh Go.Proofs.Tryz.prog (n + 1) t vs) : ShFs (Sh Go.Proofs.Tryz.prog n) fs.toList vs := by
  unfold Sh at h
  rw [hu] at h
  exact h

theorem wf_u64 {n : Int} (h : (Lit.int .u64 n).wf = true) : 0 ≤ n ∧ n ≤ 18446744073709551615 := by
  simp only [Lit.wf, Bool.and_eq_true, decide_eq_true_eq] at h
  exact h

/-- Rows of a kind. -/
theorem rows_of {α : Type} {f : α → List V} {Q : α → Prop} : ∀ (rows : List (List V)), (∀ r ∈ rows, ∃ x, r = f x ∧ Q x) → ∃ l : List α, rows = l.map f ∧ ∀ x ∈ l, Q x
  | [], _ => ⟨[], rfl, fun x h => by cases h⟩
  | r :: rows, h => by
    obtain ⟨x, rfl, hx⟩ := h r (by simp)
    obtain ⟨l, rfl, hl⟩ := rows_of rows fun r hr => h r (by simp [hr])
    exact ⟨x :: l, rfl, fun y hy => by
      rcases List.mem_cons.1 hy with rfl | hy
      · exact hx
      · exact hl y hy⟩

/-- A value that may be there. -/
def OkVal (v : Val') : Prop := (0 ≤ v.1 ∧ v.1 ≤ 18446744073709551615) ∧ v.2.length ≤ maxBytes
def OkMet (m : Met) : Prop := (-9223372036854775808 ≤ m.1 ∧ m.1 ≤ 9223372036854775807) ∧ (-9223372036854775808 ≤ m.2.1 ∧ m.2.1 ≤ 9223372036854775807) ∧ m.2.2.length * 24 ≤ reachBytes ∧ ∀ v ∈ m.2.2, OkVal v

theorem sh_val {n : Nat} {vs : List V} (h : Sh Go.Proofs.Tryz.prog (n + 2) 50 vs) : ∃ v : Val', vs = [.int .u64 v.1, .str v.2] ∧ OkVal v := by
  obtain ⟨p, q, h1, ⟨p', q', h2, rfl, rfl⟩, rfl⟩ := sh_struct Go.Proofs.Tryz.underlying50 h
  obtain ⟨x, rfl, hx⟩ := sh_int Go.Proofs.Tryz.underlying22 h1
  obtain ⟨l, rfl, hl⟩ := sh_str Go.Proofs.Tryz.underlying9 h2
  exact ⟨(x, l), rfl, wf_u64 hx, hl⟩

theorem sh_met {n : Nat} {vs : List V} (h : Sh Go.Proofs.Tryz.prog (n + 4) 37 vs) : ∃ m : Met, vs = mcells m ∧ OkMet m := by
  obtain ⟨p, q, h1, ⟨p', q', h2, ⟨p'', q'', h3, rfl, rfl⟩, rfl⟩, rfl⟩ := sh_struct Go.Proofs.Tryz.underlying37 h
  obtain ⟨a, rfl, ha⟩ := sh_int Go.Proofs.Tryz.underlying3 h1
  obtain ⟨b, rfl, hb⟩ := sh_int Go.Proofs.Tryz.underlying3 h2
  obtain ⟨rows, rfl, hr, he⟩ := sh_slice Go.Proofs.Tryz.underlying35 h3
  obtain ⟨l, rfl, hl⟩ := rows_of (f := fun v : Val' => [.int .u64 v.1, .str v.2]) rows fun r hr => sh_val (he r hr)
  have hc : Program.cellsOf Go.Proofs.Tryz.prog 50 = 2 := by kernel_rfl
  have hby : Program.bytesOf Go.Proofs.Tryz.prog 50 = 24 := by kernel_rfl
  rw [hc]
  rw [hby, List.length_map] at hr
  exact ⟨(a, b, l), rfl, wf_i64 ha, wf_i64 hb, hr, hl⟩

end Go.Abs.Sig

/-! LL1 -/
namespace Go.Abs.Sig
open Go.RowKit Go.Abs
set_option linter.unusedSimpArgs false
set_option linter.unusedVariables false
set_option maxRecDepth 8000
attribute [local irreducible] StCall StYield WPc Weak IterOf Lp2

/-! plain facts: a right lease -/
theorem tAt_of {t : TagsL} (h : tRight t = true) {i : Nat} (hi : i < t.l.length) : 1 ≤ t.l[i].1 ∧ t.l[i].1 < t.nx ∧ 1 ≤ t.l[i].2 ∧ t.l[i].2 ≤ t.la ∧ (∀ (h0 : 0 < i), (t.l[i - 1]'(by omega)).1 < t.l[i].1 ∧ (t.l[i - 1]'(by omega)).2 < t.l[i].2) := by
  unfold tRight at h
  rw [Bool.and_eq_true, List.all_eq_true] at h
  have h1 := h.2 i (List.mem_range.2 hi)
  unfold tAt at h1
  rw [List.getElem?_eq_getElem hi] at h1
  simp only [Bool.and_eq_true, decide_eq_true_eq, Bool.or_eq_true] at h1
  obtain ⟨⟨⟨⟨h1, h2⟩, h3⟩, h4⟩, h5⟩ := h1
  refine ⟨h1, h2, h3, h4, fun h0 => ?_⟩
  rcases h5 with h5 | h5
  · omega
  · rw [List.getElem?_eq_getElem (show i - 1 < t.l.length by omega)] at h5
    simpa using h5
theorem rising2_of {t : TagsL} (h : tRight t = true) : ∀ a b (hb : b < t.l.length) (hab : a < b), (t.l[a]'(by omega)).1 < t.l[b].1 ∧ (t.l[a]'(by omega)).2 < t.l[b].2 := by
  intro a b
  induction b with
  | zero => intro hb hab; omega
  | succ b ih =>
    intro hb hab
    have h1 := (tAt_of h hb).2.2.2.2 (by omega)
    simp only [Nat.add_sub_cancel] at h1
    rcases Nat.lt_or_ge a b with h2 | h2
    · have h3 := ih (by omega) h2
      exact ⟨by omega, by omega⟩
    · have : a = b := by omega
      subst this
      exact h1
theorem rising_of {t : TagsL} (h : tRight t = true) : Rising t.l := fun a b hb hab => (rising2_of h a b hb hab).1
theorem lRight_of {l : LeaseL} (h : lRight l = true) : 1 ≤ l.who ∧ 1 ≤ l.most ∧ l.most ≤ 1000 ∧ tRight l.t = true ∧ sRight l.s = true ∧ nRight l.n = true ∧ l.n.who = l.who ∧ l.s.off = 0 ∧
    (l.t.l.length : Int) ≤ l.most ∧ (l.s.l.length : Int) ≤ l.most ∧ (l.n.l.length : Int) ≤ l.most ∧ (l.gets.length : Int) ≤ l.most := by
  unfold lRight at h
  simp only [Bool.and_eq_true, decide_eq_true_eq] at h
  obtain ⟨⟨⟨⟨⟨⟨⟨⟨⟨⟨⟨h1, h2⟩, h3⟩, h4⟩, h5⟩, h6⟩, h7⟩, h8⟩, h9⟩, h10⟩, h11⟩, h12⟩ := h
  exact ⟨h1, h2, h3, h4, h5, h6, h7, h8, h9, h10, h11, h12⟩
theorem outOk_of {l : LeaseL} {c : Cm} (hs : LeaseS l) (hr : lRight l = true) (hc : CmS c) (hcl : c.1.2.2.length * 24 ≤ maxBytes) : OutOk l c := by
  obtain ⟨h1, h2, h3, h4, h5, h6, h7, h8, h9, h10, h11, h12⟩ := lRight_of hr
  have hmb : maxBytes = 140737488355328 := rfl
  exact ⟨hs.nwho.2, hs.made.1, by have := hs.made.2; omega, by omega, by omega, rising_of h4, by omega, by omega, hcl, hc⟩

/-! settled -/
theorem setL_ok {t : TagsL} {m : Int} {many : Bool} (h : (setL t m many).2.2 = 0) : ∃ a b, a < b ∧ b ≤ t.l.length ∧ (setL t m many).1 = { t with l := t.l.take a ++ t.l.drop b } ∧ (setL t m many).2.1 = upsOf ((t.l.take b).drop a) := by
  have hr := @setR_ok t.l m many
  unfold setL at h ⊢
  generalize setR t.l m many = u at h hr ⊢
  obtain ⟨a, b, r⟩ := u
  cases r
  · simp at h
  · exact ⟨a, b, (hr rfl).1, (hr rfl).2, rfl, rfl⟩
theorem mright_args {tb : Val' → Int} {m : Met} (h : mright tb m = 0) : m.2.2.length = (rowAt m.1 m.2.1).2.2.1.length := ((mright_zero tb m).1 h).2.1.symm
theorem cRight_args {c : Cm} (h : cRight c = 0) : c.1.2.2.length = (rowAt c.1.1 c.1.2.1).2.2.1.length := by
  unfold cRight at h
  split at h
  · contradiction
  · rename_i h1
    exact mright_args (tb := tbv) (by simpa using h1)
theorem out_lt {m : Met} {i : Int} (h0 : 0 ≤ i) (h : i < (m.2.2.length : Int)) : out m i = false := by
  unfold out
  simp only [Bool.or_eq_false_iff, decide_eq_false_iff_not]
  omega
theorem withC_args {c : Cm} {i : Nat} {v : Val'} (h : i < c.1.2.2.length) : withC c (i : Int) v = ((c.1.1, c.1.2.1, c.1.2.2.set i v), c.2) := by
  unfold withC withOf
  rw [out_lt (by omega) (by omega)]
  simp
end Go.Abs.Sig

/-! LL3 -/
namespace Go.Abs.Sig
open Go.RowKit Go.Abs
set_option linter.unusedSimpArgs false
set_option linter.unusedVariables false
set_option maxRecDepth 8000
attribute [local irreducible] StCall StYield WPc Weak IterOf Lp2

/-! what changes of a command -/
def changes (c : Cm) : Bool := decide (c.1.1 = 60) && (decide (c.1.2.1 = 20) || decide (c.1.2.1 = 30) || decide (c.1.2.1 = 80) || decide (c.1.2.1 = 90) || decide (c.1.2.1 = 120))
end Go.Abs.Sig

/-! LL4 -/
namespace Go.Abs.Sig
open Go.RowKit Go.Abs
set_option linter.unusedSimpArgs false
set_option linter.unusedVariables false
set_option maxRecDepth 8000
attribute [local irreducible] StCall StYield WPc Weak IterOf Lp2

end Go.Abs.Sig

/-! LL5 -/
namespace Go.Abs.Sig
open Go.RowKit Go.Abs
set_option linter.unusedSimpArgs false
set_option linter.unusedVariables false
set_option maxRecDepth 8000
attribute [local irreducible] StCall StYield WPc Weak IterOf Lp2

/-! plain facts: what is right, in other words -/
theorem tRight_iff (t : TagsL) : tRight t = true ↔ 1 ≤ t.nx ∧ (∀ x ∈ t.l, 1 ≤ x.1 ∧ x.1 < t.nx ∧ 1 ≤ x.2 ∧ x.2 ≤ t.la) ∧ t.l.Pairwise fun a b => a.1 < b.1 ∧ a.2 < b.2 := by
  constructor
  · intro h
    refine ⟨by unfold tRight at h; simp only [Bool.and_eq_true, decide_eq_true_eq] at h; exact h.1, fun x hx => ?_, List.pairwise_iff_getElem.2 fun i j hi hj hij => rising2_of h i j hj hij⟩
    obtain ⟨i, hi, rfl⟩ := List.getElem_of_mem hx
    have := tAt_of h hi
    exact ⟨this.1, this.2.1, this.2.2.1, this.2.2.2.1⟩
  · rintro ⟨h1, h2, h3⟩
    unfold tRight
    simp only [Bool.and_eq_true, decide_eq_true_eq, List.all_eq_true, List.mem_range]
    refine ⟨h1, fun i hi => ?_⟩
    obtain ⟨a1, a2, a3, a4⟩ := h2 _ (List.getElem_mem hi)
    unfold tAt
    rw [List.getElem?_eq_getElem hi]
    simp only [Bool.and_eq_true, decide_eq_true_eq, Bool.or_eq_true]
    refine ⟨⟨⟨⟨a1, a2⟩, a3⟩, a4⟩, ?_⟩
    by_cases h0 : i = 0
    · exact .inl h0
    · refine .inr ?_
      rw [List.getElem?_eq_getElem (show i - 1 < t.l.length by omega)]
      have := List.pairwise_iff_getElem.1 h3 (i - 1) i (by omega) hi (by omega)
      simp only [Bool.and_eq_true, decide_eq_true_eq]
      exact this
theorem sAt_of {s : SeqL} {i : Nat} (hi : i < s.l.length) (h : sAt s i = true) : 1 ≤ s.l[i] ∧ s.l[i] < s.nx ∧ ∀ h0 : 0 < i, (s.l[i - 1]'(by omega)) < s.l[i] := by
  unfold sAt at h
  rw [List.getElem?_eq_getElem hi] at h
  simp only [Bool.and_eq_true, decide_eq_true_eq, Bool.or_eq_true] at h
  obtain ⟨⟨h1, h2⟩, h3⟩ := h
  refine ⟨h1, h2, fun h0 => ?_⟩
  rcases h3 with h3 | h3
  · omega
  · rw [List.getElem?_eq_getElem (show i - 1 < s.l.length by omega)] at h3
    simpa using h3
theorem sRight_on (s : SeqL) (h : s.on = true) : sRight s = true ↔ 1 ≤ s.nx ∧ s.off ≤ 18446744073709551615 - s.nx ∧ (∀ x ∈ s.l, 1 ≤ x ∧ x < s.nx) ∧ s.l.Pairwise fun a b => a < b := by
  unfold sRight
  rw [h]
  simp only [Bool.and_eq_true, decide_eq_true_eq, List.all_eq_true, List.mem_range]
  constructor
  · rintro ⟨⟨h1, h2⟩, h3⟩
    refine ⟨h1, h2, fun x hx => ?_, List.pairwise_iff_getElem.2 ?_⟩
    · obtain ⟨i, hi, rfl⟩ := List.getElem_of_mem hx
      have := sAt_of hi (h3 i hi)
      exact ⟨this.1, this.2.1⟩
    · intro i j hi hj hij
      induction j with
      | zero => omega
      | succ j ih =>
        have h4 := (sAt_of hj (h3 _ hj)).2.2 (by omega)
        simp only [Nat.add_sub_cancel] at h4
        rcases Nat.lt_or_ge i j with h5 | h5
        · have := ih (by omega) h5; omega
        · have : i = j := by omega
          subst this
          exact h4
  · rintro ⟨h1, h2, h3, h4⟩
    refine ⟨⟨h1, h2⟩, fun i hi => ?_⟩
    obtain ⟨a1, a2⟩ := h3 _ (List.getElem_mem hi)
    unfold sAt
    rw [List.getElem?_eq_getElem hi]
    simp only [Bool.and_eq_true, decide_eq_true_eq, Bool.or_eq_true]
    refine ⟨⟨a1, a2⟩, ?_⟩
    by_cases h0 : i = 0
    · exact .inl h0
    · refine .inr ?_
      rw [List.getElem?_eq_getElem (show i - 1 < s.l.length by omega)]
      have := List.pairwise_iff_getElem.1 h4 (i - 1) i (by omega) hi (by omega)
      simp only [decide_eq_true_eq]
      exact this
theorem sRight_off (s : SeqL) (h : s.on = false) : sRight s = true ↔ s.nx = 0 ∧ s.off = 0 ∧ s.l = [] := by
  unfold sRight
  rw [h]
  simp only [Bool.and_eq_true, decide_eq_true_eq, List.length_eq_zero_iff, and_assoc]
theorem nRight_iff (n : NamesL) : nRight n = true ↔ 1 ≤ n.who ∧ (∀ x ∈ n.l, upL n.who x.1 = (x.2.1, 0)) ∧ n.l.Pairwise fun a b => a.1 ≠ b.1 := by
  unfold nRight
  simp only [Bool.and_eq_true, decide_eq_true_eq, List.all_eq_true, List.mem_range]
  constructor
  · rintro ⟨h1, h2⟩
    refine ⟨h1, fun x hx => ?_, List.pairwise_iff_getElem.2 fun i j hi hj hij => ?_⟩
    · obtain ⟨i, hi, rfl⟩ := List.getElem_of_mem hx
      have := h2 i hi
      unfold nAt at this
      rw [List.getElem?_eq_getElem hi] at this
      simp only [Bool.and_eq_true, decide_eq_true_eq] at this
      exact Prod.ext this.1.2 this.1.1
    · have := h2 j hj
      unfold nAt at this
      rw [List.getElem?_eq_getElem hj] at this
      simp only [Bool.and_eq_true, decide_eq_true_eq, List.all_eq_true, List.mem_range] at this
      have := this.2 i hij
      unfold nmNe at this
      rw [List.getElem?_eq_getElem hi] at this
      simpa using this
  · rintro ⟨h1, h2, h3⟩
    refine ⟨h1, fun i hi => ?_⟩
    have a1 := h2 _ (List.getElem_mem hi)
    unfold nAt
    rw [List.getElem?_eq_getElem hi]
    simp only [Bool.and_eq_true, decide_eq_true_eq, List.all_eq_true, List.mem_range]
    refine ⟨⟨by rw [a1], by rw [a1]⟩, fun k hk => ?_⟩
    unfold nmNe
    rw [List.getElem?_eq_getElem (show k < n.l.length by omega)]
    have := List.pairwise_iff_getElem.1 h3 k i (by omega) hi hk
    simpa using this
theorem cut_sub {α : Type} (l : List α) {a b : Nat} (h : a ≤ b) : (l.take a ++ l.drop b).Sublist l := by
  have h1 : (l.drop b).Sublist (l.drop a) := by
    have : l.drop b = (l.drop a).drop (b - a) := by rw [List.drop_drop]; congr 1; omega
    rw [this]
    exact List.drop_sublist _ _
  have := (List.Sublist.refl (l.take a)).append h1
  rwa [List.take_append_drop] at this
theorem tRight_sub {t : TagsL} {l : List (Int × Int)} (h : tRight t = true) (hl : l.Sublist t.l) : tRight { t with l := l } = true := by
  rw [tRight_iff] at h ⊢
  exact ⟨h.1, fun x hx => h.2.1 x (hl.subset hx), h.2.2.sublist hl⟩
theorem nRight_sub {n : NamesL} {l : List Nm} (h : nRight n = true) (hl : l.Sublist n.l) : nRight { n with l := l } = true := by
  rw [nRight_iff] at h ⊢
  exact ⟨h.1, fun x hx => h.2.1 x (hl.subset hx), h.2.2.sublist hl⟩

/-! a lease stays right -/
/-- What is kept. -/
structure Kept (l l' : LeaseL) : Prop where
  s : LeaseS l'
  r : lRight l' = true
  w : l'.who = l.who
  m : l'.most = l.most
theorem lRight_mk {l : LeaseL} (h1 : 1 ≤ l.who) (h2 : 1 ≤ l.most) (h3 : l.most ≤ 1000) (h4 : tRight l.t = true) (h5 : sRight l.s = true) (h6 : nRight l.n = true) (h7 : l.n.who = l.who) (h8 : l.s.off = 0)
    (h9 : (l.t.l.length : Int) ≤ l.most) (h10 : (l.s.l.length : Int) ≤ l.most) (h11 : (l.n.l.length : Int) ≤ l.most) (h12 : (l.gets.length : Int) ≤ l.most) : lRight l = true := by
  unfold lRight
  simp only [Bool.and_eq_true, decide_eq_true_eq]
  exact ⟨⟨⟨⟨⟨⟨⟨⟨⟨⟨⟨h1, h2⟩, h3⟩, h4⟩, h5⟩, h6⟩, h7⟩, h8⟩, h9⟩, h10⟩, h11⟩, h12⟩
theorem kept_t {l : LeaseL} (hs : LeaseS l) (hr : lRight l = true) {t : List (Int × Int)} (h : t.Sublist l.t.l) : Kept l { l with t := { l.t with l := t } } := by
  obtain ⟨h1, h2, h3, h4, h5, h6, h7, h8, h9, h10, h11, h12⟩ := lRight_of hr
  obtain ⟨a1, a2, a3, a4, a5, a6, a7, a8, a9, a10, a11, a12, a13, a14, a15⟩ := hs
  have hl := h.length_le
  refine ⟨⟨a1, a2, a3, a4, a5, a6, a7, a8, ?_, fun x hx => a10 x (h.subset hx), a11, a12, a13, a14, a15⟩, lRight_mk h1 h2 h3 (tRight_sub h4 h) h5 h6 h7 h8 ?_ h10 h11 h12, rfl, rfl⟩
  · show t.length * 16 ≤ maxBytes
    omega
  · show (t.length : Int) ≤ l.most
    omega
theorem kept_n {l : LeaseL} (hs : LeaseS l) (hr : lRight l = true) {n : List Nm} (h : n.Sublist l.n.l) : Kept l { l with n := { l.n with l := n } } := by
  obtain ⟨h1, h2, h3, h4, h5, h6, h7, h8, h9, h10, h11, h12⟩ := lRight_of hr
  obtain ⟨a1, a2, a3, a4, a5, a6, a7, a8, a9, a10, a11, a12, a13, a14, a15⟩ := hs
  have hl := h.length_le
  refine ⟨⟨a1, a2, a3, a4, a5, a6, a7, a8, a9, a10, a11, a12, ?_, fun x hx => a14 x (h.subset hx), a15⟩, lRight_mk h1 h2 h3 h4 h5 (nRight_sub h6 h) h7 h8 h9 h10 ?_ h12, rfl, rfl⟩
  · show n.length * 40 ≤ maxBytes
    omega
  · show (n.length : Int) ≤ l.most
    omega
theorem kept_refl {l : LeaseL} (hs : LeaseS l) (hr : lRight l = true) : Kept l l := ⟨hs, hr, rfl, rfl⟩
theorem madeL_free {l : List Nm} {made : Int} (h0 : 0 ≤ made) (h1 : made < 18446744073709551616) (hl : l.length < 18446744073709551615) :
    (toL l (madeL l (l.length + 1) made).1).2 = false ∧ U64 (madeL l (l.length + 1) made).2 ∧ (madeL l (l.length + 1) made).1.length ≤ 25 ∧ (madeL l (l.length + 1) made).1 ≠ [] := by
  have hex : ∃ j, j ≤ l.length ∧ (∀ i, i < j → (toL l (amqS (madeAt made i))).2 = true) ∧ (toL l (amqS (madeAt made j))).2 = false := by
    by_cases h : ∃ j, j ≤ l.length ∧ (toL l (amqS (madeAt made j))).2 = false
    · obtain ⟨j, hj⟩ := h
      induction j using Nat.strongRecOn with
      | _ j ih =>
        by_cases hall : ∀ i, i < j → (toL l (amqS (madeAt made i))).2 = true
        · exact ⟨j, hj.1, hall, hj.2⟩
        · have : ∃ i, i < j ∧ (toL l (amqS (madeAt made i))).2 = false := by
            by_cases hh : ∃ i, i < j ∧ (toL l (amqS (madeAt made i))).2 = false
            · exact hh
            · exact absurd (fun i hi => by
                cases hb : (toL l (amqS (madeAt made i))).2 with
                | true => rfl
                | false => exact absurd ⟨i, hi, hb⟩ hh) hall
          obtain ⟨i, hi1, hi2⟩ := this
          exact ih i hi1 ⟨by omega, hi2⟩
    · exact absurd (made_free l made hl fun i hi => by
        cases hb : (toL l (amqS (madeAt made i))).2 with
        | true => rfl
        | false => exact absurd ⟨i, by omega, hb⟩ h) id
  obtain ⟨j, hj, hall, hno⟩ := hex
  have hst := madeL_step h0 h1 j hj hall
  have e : l.length + 1 - j = (l.length - j) + 1 := by omega
  rw [hst, e, madeL, if_neg (by rw [hno]; simp)]
  have hr := madeAt_rng made j
  have hfl := fig_len 19 (madeAt made j).toNat (by omega)
  refine ⟨hno, ?_, ?_, by unfold amqS; simp⟩
  · rw [madeAt_succ]
    exact madeAt_rng made (j + 1)
  · unfold amqS
    rw [List.length_append]
    show 5 + _ ≤ 25
    omega
theorem toL_none {l : List Nm} {s : List UInt8} (h : (toL l s).2 = false) : ∀ x ∈ l, x.1 ≠ s := by
  unfold toL nmFind at h
  intro x hx
  split at h
  · cases h
  · rename_i hf
    have := List.find?_eq_none.1 hf x hx
    simpa using this
theorem upL_len (who : Int) (m : List UInt8) : (upL who m).1.length ≤ 255 := by
  unfold upL
  split
  · simp
  split
  · simp
  split
  · simp
  · show (upS who m).length ≤ 255
    omega
/-- A name is put. -/
theorem kept_put {l : LeaseL} (hs : LeaseS l) (hr : lRight l = true) {made : Int} {m : List UInt8} {free : Bool} (hmade : U64 made) (hm : m.length ≤ maxBytes) (hno : ∀ x ∈ l.n.l, x.1 ≠ m) (hfull : (l.n.l.length : Int) < l.most) :
    Kept l { l with n := (nmPut l.n { l.n with made := made } m free).1 } := by
  unfold nmPut
  split
  · exact kept_refl hs hr
  split
  · exact kept_refl hs hr
  rename_i h0 _
  have h0 : (upL l.n.who m).2 = 0 := by simpa using h0
  obtain ⟨h1, h2, h3, h4, h5, h6, h7, h8, h9, h10, h11, h12⟩ := lRight_of hr
  obtain ⟨a1, a2, a3, a4, a5, a6, a7, a8, a9, a10, a11, a12, a13, a14, a15⟩ := hs
  have hmb : maxBytes = 140737488355328 := rfl
  have hul := upL_len l.n.who m
  refine ⟨⟨a1, a2, a3, hmade, a5, a6, a7, a8, a9, a10, a11, a12, ?_, fun x hx => ?_, a15⟩, lRight_mk h1 h2 h3 h4 h5 ?_ h7 h8 h9 h10 ?_ h12, rfl, rfl⟩
  · simp only [List.length_append, List.length_singleton]
    omega
  · rcases List.mem_append.1 hx with hx | hx
    · exact a14 x hx
    · obtain rfl := List.mem_singleton.1 hx
      exact ⟨hm, by simp only; omega⟩
  · rw [nRight_iff] at h6 ⊢
    refine ⟨h6.1, fun x hx => ?_, ?_⟩
    · rcases List.mem_append.1 hx with hx | hx
      · exact h6.2.1 x hx
      · obtain rfl := List.mem_singleton.1 hx
        exact Prod.ext rfl h0
    · show (l.n.l ++ [_]).Pairwise _
      rw [List.pairwise_append]
      refine ⟨h6.2.2, by simp, fun x hx y hy => ?_⟩
      obtain rfl := List.mem_singleton.1 hy
      exact hno x hx
  · simp only [List.length_append, List.length_singleton]
    omega
theorem kept_consume {l : LeaseL} {c : Cm} (hs : LeaseS l) (hr : lRight l = true) (hc : CmS c) : Kept l (wConsume l c).1 := by
  unfold wConsume
  simp only
  unfold nmAdd
  have hmb : maxBytes = 140737488355328 := rfl
  have a := hs.made
  have b := hs.nl
  split
  · exact kept_refl hs hr
  split
  · have hf := madeL_free (l := l.n.l) a.1 a.2 (by omega)
    exact kept_put hs hr hf.2.1 (by have := hf.2.2.1; omega) (toL_none hf.1) (by omega)
  split
  · exact kept_refl hs hr
  · rename_i h1 h2 h3
    exact kept_put (made := l.n.made) hs hr a (argOf_len hc 2) (toL_none (by simpa using h3)) (by omega)
theorem kept_cancel {l : LeaseL} {c : Cm} (e : Int) (hs : LeaseS l) (hr : lRight l = true) : Kept l (wCancel l c e).1 := by
  unfold wCancel
  split
  · exact kept_refl hs hr
  · rename_i x _
    simp only
    split
    · exact kept_n hs hr List.filter_sublist
    · exact kept_refl hs hr
theorem kept_publish {l : LeaseL} (hs : LeaseS l) (hr : lRight l = true) : Kept l (wPublish l).1 := by
  unfold wPublish pubL
  simp only
  split
  · exact kept_refl hs hr
  split
  · exact kept_refl hs hr
  split
  · exact kept_refl hs hr
  rename_i h1 h2 h3
  have hon : l.s.on = true := by simpa using h1
  obtain ⟨g1, g2, g3, g4, g5, g6, g7, g8, g9, g10, g11, g12⟩ := lRight_of hr
  obtain ⟨a1, a2, a3, a4, a5, a6, a7, a8, a9, a10, a11, a12, a13, a14, a15⟩ := hs
  have hmb : maxBytes = 140737488355328 := rfl
  have g5' := (sRight_on _ hon).1 g5
  rw [g8, Int.add_zero] at h2
  have hw1 : IntKind.u64.wrap l.s.nx = l.s.nx := by rw [IntKind.wrap_u64]; have := a7.1; have := a7.2; omega
  rw [hw1] at h2
  have hw : IntKind.u64.wrap (l.s.nx + 1) = l.s.nx + 1 := by rw [IntKind.wrap_u64]; have := a7.1; have := a7.2; omega
  rw [hw]
  refine ⟨⟨a1, a2, a3, a4, a5, a6, ⟨by have := a7.1; simp only; omega, by have := a7.2; simp only; omega⟩, a8, a9, a10, ?_, fun x hx => ?_, a13, a14, a15⟩, lRight_mk g1 g2 g3 g4 ?_ g6 g7 g8 g9 ?_ g11 g12, rfl, rfl⟩
  · simp only [List.length_append, List.length_singleton]
    omega
  · rcases List.mem_append.1 hx with hx | hx
    · exact a12 x hx
    · obtain rfl := List.mem_singleton.1 hx
      exact a7
  · refine (sRight_on { l.s with nx := l.s.nx + 1, l := l.s.l ++ [l.s.nx] } hon).2 ⟨by simp only; omega, by simp only; rw [g8]; have := a7.2; omega, fun x hx => ?_, ?_⟩
    · rcases List.mem_append.1 hx with hx | hx
      · have := g5'.2.2.1 x hx
        exact ⟨this.1, by simp only; omega⟩
      · obtain rfl := List.mem_singleton.1 hx
        exact ⟨g5'.1, by simp only; omega⟩
    · show (l.s.l ++ [_]).Pairwise _
      rw [List.pairwise_append]
      refine ⟨g5'.2.2.2, by simp, fun x hx y hy => ?_⟩
      obtain rfl := List.mem_singleton.1 hy
      exact (g5'.2.2.1 x hx).2
  · simp only [List.length_append, List.length_singleton]
    omega
theorem kept_get {l : LeaseL} (n e : Int) (hs : LeaseS l) (hr : lRight l = true) : Kept l (wGet l n e).1 := by
  unfold wGet
  split
  · exact kept_refl hs hr
  rename_i h0
  obtain ⟨g1, g2, g3, g4, g5, g6, g7, g8, g9, g10, g11, g12⟩ := lRight_of hr
  obtain ⟨a1, a2, a3, a4, a5, a6, a7, a8, a9, a10, a11, a12, a13, a14, a15⟩ := hs
  have hmb : maxBytes = 140737488355328 := rfl
  refine ⟨⟨a1, a2, a3, a4, a5, a6, a7, a8, a9, a10, a11, a12, a13, a14, ?_⟩, lRight_mk g1 g2 g3 g4 g5 g6 g7 g8 g9 g10 g11 ?_, rfl, rfl⟩
  · simp only [List.length_append, List.length_singleton]
    omega
  · simp only [List.length_append, List.length_singleton]
    omega
theorem kept_settle {l : LeaseL} {c : Cm} (many : Bool) (hs : LeaseS l) (hr : lRight l = true) : Kept l (wSettle l c many).1 := by
  unfold wSettle
  simp only
  by_cases h : (setL l.t (argOf c.1 0).1 many).2.2 = 0
  · obtain ⟨a, b, hab, hb, e1, _⟩ := setL_ok h
    rw [e1]
    exact kept_t hs hr (cut_sub _ (by omega))
  · have : (setL l.t (argOf c.1 0).1 many).1 = l.t := by
      unfold setL at h ⊢
      split at h
      · exact absurd rfl h
      · rfl
    rw [this]
    exact kept_refl hs hr
theorem kept_confirm {l : LeaseL} (hs : LeaseS l) (hr : lRight l = true) : Kept l (wConfirm l).1 := by
  unfold wConfirm selL
  split
  · exact kept_refl hs hr
  simp only
  split
  · exact kept_refl hs hr
  split
  · exact kept_refl hs hr
  obtain ⟨g1, g2, g3, g4, g5, g6, g7, g8, g9, g10, g11, g12⟩ := lRight_of hr
  obtain ⟨a1, a2, a3, a4, a5, a6, a7, a8, a9, a10, a11, a12, a13, a14, a15⟩ := hs
  refine ⟨⟨a1, a2, a3, a4, a5, a6, (show U64 1 from ⟨by decide, by decide⟩), (show U64 0 from ⟨by decide, by decide⟩), a9, a10, Nat.zero_le _, (fun x hx => by simp at hx), a13, a14, a15⟩, lRight_mk g1 g2 g3 g4 rfl g6 g7 rfl g9 ?_ g11 g12, rfl, rfl⟩
  show ((0 : Nat) : Int) ≤ l.most
  omega
theorem kept_begin {l : LeaseL} (e : Int) (hs : LeaseS l) (hr : lRight l = true) : Kept l (wBegin l e).1 := by
  unfold wBegin
  split
  · exact kept_refl hs hr
  · obtain ⟨g1, g2, g3, g4, g5, g6, g7, g8, g9, g10, g11, g12⟩ := lRight_of hr
    obtain ⟨a1, a2, a3, a4, a5, a6, a7, a8, a9, a10, a11, a12, a13, a14, a15⟩ := hs
    exact ⟨⟨a1, a2, a3, a4, a5, a6, a7, a8, a9, a10, a11, a12, a13, a14, a15⟩, lRight_mk g1 g2 g3 g4 g5 g6 g7 g8 g9 g10 g11 g12, rfl, rfl⟩
theorem kept_act {l : LeaseL} {c : Cm} (hs : LeaseS l) (hr : lRight l = true) (hc : CmS c) (g : Nat) : Kept l (actE g l c).1 := by
  unfold actE
  split
  · exact kept_consume hs hr hc
  split
  · exact kept_cancel 0 hs hr
  split
  · exact kept_publish hs hr
  split
  · exact kept_get _ _ hs hr
  split
  · exact kept_settle _ hs hr
  split
  · exact kept_settle _ hs hr
  split
  · exact kept_t hs hr (List.nil_sublist _)
  split
  · exact kept_confirm hs hr
  split
  · exact kept_begin _ hs hr
  · exact kept_refl hs hr
theorem kept_out {l : LeaseL} {c : Cm} (hs : LeaseS l) (hr : lRight l = true) (hc : CmS c) : Kept l (outL l c).1 := by
  unfold outL
  split
  · exact kept_refl hs hr
  split
  · exact kept_refl hs hr
  split
  · exact kept_refl hs hr
  · simp only
    unfold actL
    split
    · exact kept_act hs hr hc _
    · exact kept_refl hs hr

/-! never both -/
end Go.Abs.Sig

/-! LL6 -/
namespace Go.Abs.Sig
open Go.RowKit Go.Abs
set_option linter.unusedSimpArgs false
set_option linter.unusedVariables false
set_option maxRecDepth 8000
attribute [local irreducible] StCall StYield WPc Weak IterOf Lp2

end Go.Abs.Sig

/-! LF3 -/
namespace Go.Abs.Sig
open Go.RowKit Go.Abs
set_option linter.unusedSimpArgs false
set_option linter.unusedVariables false
set_option maxRecDepth 8000
attribute [local irreducible] StCall StYield WPc Weak IterOf Lp2

/-- There was nothing: the first get comes off, and the command is told. -/
def wEmpty (l : LeaseL) (c : Cm) (e : Int) : LeaseL × V × Int := ((wFirst l e).1, if (wFirst l e).2.2.2 then .dat 8 [ccells c] .no else .dat 0 [] .tight, (wFirst l e).2.1)
theorem wempty_ct (G : Nat → Option (List V)) (H : Heap) (k : Nat) (l : LeaseL) (c : Cm) (e : Int) (hk : H[k]? = some (wkB l c (.dat 0 [] .tight) e)) :
    Call2 Go.Proofs.Tryz.prog G 65 [.ptr k 0] H fun r H' => H' = H.set k (wkB (wEmpty l c e).1 c (wEmpty l c e).2.1 (wEmpty l c e).2.2) ∧ r = .tup [] := by
  have hkl := lt_of_get hk
  have hf := wfirst_ct G H k l c e hk
  unfold wEmpty
  generalize wFirst l e = u at hf ⊢
  obtain ⟨l1, e1, fr, is⟩ := u
  refine stCall2 Go.Proofs.Tryz.func65 rfl (by decide) ?_
  conv => whnf
  refine Call2.mono (hf) fun r0 H0 h => ?_
  obtain ⟨h1, h2⟩ := h
  rw [h1, h2]
  clear h1 h2 r0 H0
  conv => whnf
  cases is
  · conv => whnf
    exact ⟨rfl, rfl⟩
  · have ht := wtell_ct G (H.set k (wkB l1 c (.dat 0 [] .tight) e1)) k l1 c e1 (set_get hkl)
    conv => whnf
    refine Call2.mono (ht) fun r0 H0 h => ?_
    obtain ⟨h1, h2⟩ := h
    rw [h1, h2]
    clear h1 h2 r0 H0
    conv => whnf
    refine ⟨?_, rfl⟩
    rw [List.set_set]
    rfl
theorem wconsumed_ct (G : Nat → Option (List V)) (H : Heap) (hH : H.all noClsB = true) (k : Nat) (l : LeaseL) (c : Cm) (e : Int) (hk : H[k]? = some (wkB l c (.dat 0 [] .tight) e)) (hl : l.n.l.length ≤ maxLen) (hb : c.1.2.2.length * 24 ≤ maxBytes) :
    Call2 Go.Proofs.Tryz.prog G 61 [.ptr k 0] H fun r H' => H' = H.set k (wkB l (wNamed l c e).1 (if (wNamed l c e).2.2.2 then .dat 8 [ccells (wNamed l c e).1] .no else .dat 0 [] .tight) (wNamed l c e).2.1) ∧ r = .tup [] := by
  have hkl := lt_of_get hk
  have hf := wnamed_ct G H hH k l c e hk hl hb
  generalize wNamed l c e = u at hf ⊢
  obtain ⟨c1, e1, x, is⟩ := u
  simp only at hf ⊢
  refine Call2.cutW ?_
  refine stCall2 Go.Proofs.Tryz.func61 rfl (by decide) ?_
  conv => whnf
  refine Call2.mono (hf) fun r0 H0 h => ?_
  obtain ⟨h1, h2⟩ := h
  rw [h1, h2]
  clear h1 h2 r0 H0
  conv => whnf
  generalize hH1 : H.set k (wkB l c1 (.dat 0 [] .tight) e1) = H1
  have hk1 : H1[k]? = some (wkB l c1 (.dat 0 [] .tight) e1) := by rw [← hH1]; exact set_get hkl
  have hkl1 := lt_of_get hk1
  have hlen : H1.length = H.length := by rw [← hH1, List.length_set]
  have hoth : ∀ id, id ≠ k → H1[id]? = H[id]? := fun id h => by rw [← hH1, List.getElem?_set_ne (fun h2 => h h2.symm)]
  iterate 3 (conv => whnf; try simp only [List.append_assoc, List.cons_append, List.nil_append, List.length_append, List.length_cons, List.length_nil, Nat.zero_add, Nat.add_assoc, Nat.reduceAdd, ga0, ga1, ga2, ga3, ga4, ga5, sa0, sa1, sa2, sa3, sa4, sa5, S2.setH_H, List.all_cons, List.all_nil, isDefd, nodupB, List.any_nil, Bool.and_true, Bool.not_false, List.foldl_cons, List.foldl_nil])
  cases is
  · iterate 2 (conv => whnf; try simp only [List.append_assoc, List.cons_append, List.nil_append, List.length_append, List.length_cons, List.length_nil, Nat.zero_add, Nat.add_assoc, Nat.reduceAdd, ga0, ga1, ga2, ga3, ga4, ga5, sa0, sa1, sa2, sa3, sa4, sa5, S2.setH_H, List.all_cons, List.all_nil, isDefd, nodupB, List.any_nil, Bool.and_true, Bool.not_false, List.foldl_cons, List.foldl_nil])
    refine ⟨.tup [], _, CutW.at hkl (x := wkB l c1 (.dat 0 [] .tight) e1) (get_app hk1) (fun id h1 h2 => by rw [List.getElem?_append_left (by omega)]; exact hoth id h1) (wkB_bw _ _ _ _ _ (.dat _ _ _)), .free (.tup _ (by simp)), rfl, rfl⟩
  · iterate 2 (conv => whnf; try simp only [List.append_assoc, List.cons_append, List.nil_append, List.length_append, List.length_cons, List.length_nil, Nat.zero_add, Nat.add_assoc, Nat.reduceAdd, ga0, ga1, ga2, ga3, ga4, ga5, sa0, sa1, sa2, sa3, sa4, sa5, S2.setH_H, List.all_cons, List.all_nil, isDefd, nodupB, List.any_nil, Bool.and_true, Bool.not_false, List.foldl_cons, List.foldl_nil])
    refine Call2.mono (wtell_ct G _ k l c1 e1 (get_app hk1)) fun r0 H0 h => ?_
    obtain ⟨h1, h2⟩ := h
    rw [h1, h2]
    clear h1 h2 r0 H0
    conv => whnf
    refine ⟨.tup [], _, CutW.at hkl (x := wkB l c1 (.dat 8 [ccells c1] .no) e1) ?_ (fun id h1 h2 => ?_) (wkB_bw _ _ _ _ _ (.dat _ _ _)), .free (.tup _ (by simp)), rfl, rfl⟩
    · rw [List.getElem?_set_self (by rw [List.length_append]; omega)]
    · rw [List.getElem?_set_ne (fun h => h1 h.symm), List.getElem?_append_left (by omega)]
      exact hoth id h1
end Go.Abs.Sig

/-! LF4 -/
namespace Go.Abs.Sig
open Go.RowKit Go.Abs
set_option linter.unusedSimpArgs false
set_option linter.unusedVariables false
set_option maxRecDepth 8000
attribute [local irreducible] StCall StYield WPc Weak IterOf Lp2

/-- A delivery is numbered, and told. -/
def delW (l : LeaseL) (up : Int) (free : Bool) : TagsL × Int × Int :=
  if (delL l.t up l.most).2.2 = 0 ∧ free = true then ((setL (delL l.t up l.most).1 (delL l.t up l.most).2.1 false).1, (delL l.t up l.most).2.1, (setL (delL l.t up l.most).1 (delL l.t up l.most).2.1 false).2.2) else delL l.t up l.most
theorem wdeliver_ct (G : Nat → Option (List V)) (H : Heap) (hH : H.all noClsB = true) (k : Nat) (l : LeaseL) (c : Cm) (i : Int) (free : Bool) (hk : H[k]? = some (wkB l c (.dat 0 [] .tight) 0)) (hl : (l.t.l.length + 1) * 16 ≤ maxBytes) (hb : c.1.2.2.length * 24 ≤ maxBytes)
    (hr : Rising (delL l.t (argOf c.1 i).1 l.most).1.l) (hl2 : (delL l.t (argOf c.1 i).1 l.most).1.l.length * 16 ≤ maxBytes) :
    Call2 Go.Proofs.Tryz.prog G 94 [.ptr k 0, .int .i64 i, .bool free] H fun r H' =>
      H' = H.set k (wkB { l with t := (delW l (argOf c.1 i).1 free).1 } (withC c i ((delW l (argOf c.1 i).1 free).2.1, [])) (.dat 8 [ccells (withC c i ((delW l (argOf c.1 i).1 free).2.1, []))] .no) (delW l (argOf c.1 i).1 free).2.2) ∧ r = .tup [] := by
  have hkl := lt_of_get hk
  have hn := fun X => num_ct G (H ++ X) k l c _ 0 (get_app hk) i
  unfold delW
  generalize (argOf c.1 i).1 = m at hn hr hl2 ⊢
  have hd := deliver_ct G l.t m l.most hl
  generalize delL l.t m l.most = u at hd hr hl2 ⊢
  obtain ⟨us, un, ue⟩ := u
  have hs := settle_ct G us un false hl2 hr
  generalize setL us un false = v at hs ⊢
  obtain ⟨vs, vl, ve⟩ := v
  have hkl2 : ∀ L : Heap, k < (H ++ L).length := fun L => by rw [List.length_append]; omega
  obtain ⟨who, t, s, nn, tx, gets, most⟩ := l
  refine Call2.cutW ?_
  refine stCall2 Go.Proofs.Tryz.func94 rfl (by decide) ?_
  conv => whnf
  intro hw
  refine wpc_drawG2 [18, 19] [] [] (by rfl) (by decide) (by decide) hw ?_
  conv => whnf
  rw [hk]
  conv => whnf
  refine ⟨_, fun X _ => hn X, ?_⟩
  conv => whnf
  rw [hk]
  conv => whnf
  refine ⟨_, fun X _ => hd _, ?_⟩
  iterate 2 (conv => whnf; try simp only [List.append_assoc, List.cons_append, List.nil_append, List.length_append, List.length_cons, List.length_nil, Nat.zero_add, Nat.add_assoc, Nat.reduceAdd, ga0, ga1, ga2, ga3, ga4, ga5, sa0, sa1, sa2, sa3, sa4, sa5, S2.setH_H, List.all_cons, List.all_nil, isDefd, nodupB, List.any_nil, Bool.and_true, Bool.not_false, List.foldl_cons, List.foldl_nil])
  refine grd_intro (dqOkL_of (all_app hH rfl) (all_app hH rfl)) ?_
  iterate 3 (conv => whnf; try simp only [List.append_assoc, List.cons_append, List.nil_append, List.length_append, List.length_cons, List.length_nil, Nat.zero_add, Nat.add_assoc, Nat.reduceAdd, ga0, ga1, ga2, ga3, ga4, ga5, sa0, sa1, sa2, sa3, sa4, sa5, S2.setH_H, List.all_cons, List.all_nil, isDefd, nodupB, List.any_nil, Bool.and_true, Bool.not_false, List.foldl_cons, List.foldl_nil])
  by_cases hc : ue = 0
  · refine br_t (show decide (ue = 0) = true from decide_eq_true hc) ?_
    cases free
    · rw [if_neg (by simp)]
      iterate 3 (conv => whnf; try simp only [List.append_assoc, List.cons_append, List.nil_append, List.length_append, List.length_cons, List.length_nil, Nat.zero_add, Nat.add_assoc, Nat.reduceAdd, ga0, ga1, ga2, ga3, ga4, ga5, sa0, sa1, sa2, sa3, sa4, sa5, S2.setH_H, List.all_cons, List.all_nil, isDefd, nodupB, List.any_nil, Bool.and_true, Bool.not_false, List.foldl_cons, List.foldl_nil])
      rw [get_app hk]
      iterate 2 (conv => whnf; try simp only [List.append_assoc, List.cons_append, List.nil_append, List.length_append, List.length_cons, List.length_nil, Nat.zero_add, Nat.add_assoc, Nat.reduceAdd, ga0, ga1, ga2, ga3, ga4, ga5, sa0, sa1, sa2, sa3, sa4, sa5, S2.setH_H, List.all_cons, List.all_nil, isDefd, nodupB, List.any_nil, Bool.and_true, Bool.not_false, List.foldl_cons, List.foldl_nil])
      rw [set_get (hkl2 _)]
      iterate 2 (conv => whnf; try simp only [List.append_assoc, List.cons_append, List.nil_append, List.length_append, List.length_cons, List.length_nil, Nat.zero_add, Nat.add_assoc, Nat.reduceAdd, ga0, ga1, ga2, ga3, ga4, ga5, sa0, sa1, sa2, sa3, sa4, sa5, S2.setH_H, List.all_cons, List.all_nil, isDefd, nodupB, List.any_nil, Bool.and_true, Bool.not_false, List.foldl_cons, List.foldl_nil])
      refine Call2.mono (wwith_ct G _ k ⟨who, us, s, nn, tx, gets, most⟩ c (.dat 0 [] .tight) ue (fun n => .dat _ _ _) (by rw [List.set_set, List.getElem?_set_self (hkl2 _)]; rfl) i (un, []) hb) fun r0 H0 h => ?_
      obtain ⟨h1, h2⟩ := h
      rw [h1, h2]
      clear h1 h2 r0 H0
      iterate 2 (conv => whnf; try simp only [List.append_assoc, List.cons_append, List.nil_append, List.length_append, List.length_cons, List.length_nil, Nat.zero_add, Nat.add_assoc, Nat.reduceAdd, ga0, ga1, ga2, ga3, ga4, ga5, sa0, sa1, sa2, sa3, sa4, sa5, S2.setH_H, List.all_cons, List.all_nil, isDefd, nodupB, List.any_nil, Bool.and_true, Bool.not_false, List.foldl_cons, List.foldl_nil])
      refine Call2.mono (wtell_ct G _ k ⟨who, us, s, nn, tx, gets, most⟩ (withC c i (un, [])) ue (by rw [List.set_set, List.set_set, List.getElem?_set_self (hkl2 _)])) fun r0 H0 h => ?_
      obtain ⟨h1, h2⟩ := h
      rw [h1, h2]
      clear h1 h2 r0 H0
      iterate 2 (conv => whnf; try simp only [List.append_assoc, List.cons_append, List.nil_append, List.length_append, List.length_cons, List.length_nil, Nat.zero_add, Nat.add_assoc, Nat.reduceAdd, ga0, ga1, ga2, ga3, ga4, ga5, sa0, sa1, sa2, sa3, sa4, sa5, S2.setH_H, List.all_cons, List.all_nil, isDefd, nodupB, List.any_nil, Bool.and_true, Bool.not_false, List.foldl_cons, List.foldl_nil])
      refine ⟨.tup [], _, CutW.at hkl (x := wkB ⟨who, us, s, nn, tx, gets, most⟩ (withC c i (un, [])) (.dat 8 [ccells (withC c i (un, []))] .no) ue) ?_ (fun id h1 h2 => ?_) (wkB_bw _ _ _ _ _ (.dat _ _ _)), .free (.tup _ (by simp)), rfl, rfl⟩
      · rw [List.set_set, List.set_set, List.set_set, List.getElem?_set_self (hkl2 _)]
      · rw [List.set_set, List.set_set, List.set_set, List.getElem?_set_ne (fun h => h1 h.symm), List.getElem?_append_left h2]
    · rw [if_pos ⟨hc, rfl⟩]
      iterate 3 (conv => whnf; try simp only [List.append_assoc, List.cons_append, List.nil_append, List.length_append, List.length_cons, List.length_nil, Nat.zero_add, Nat.add_assoc, Nat.reduceAdd, ga0, ga1, ga2, ga3, ga4, ga5, sa0, sa1, sa2, sa3, sa4, sa5, S2.setH_H, List.all_cons, List.all_nil, isDefd, nodupB, List.any_nil, Bool.and_true, Bool.not_false, List.foldl_cons, List.foldl_nil])
      refine Call2.mono (hs _) fun r0 H0 h => ?_
      obtain ⟨h1, h2⟩ := h
      rw [h1, h2]
      clear h1 h2 r0 H0
      conv => whnf
      iterate 3 (conv => whnf; try simp only [List.append_assoc, List.cons_append, List.nil_append, List.length_append, List.length_cons, List.length_nil, Nat.zero_add, Nat.add_assoc, Nat.reduceAdd, ga0, ga1, ga2, ga3, ga4, ga5, sa0, sa1, sa2, sa3, sa4, sa5, S2.setH_H, List.all_cons, List.all_nil, isDefd, nodupB, List.any_nil, Bool.and_true, Bool.not_false, List.foldl_cons, List.foldl_nil])
      rw [get_app hk]
      iterate 2 (conv => whnf; try simp only [List.append_assoc, List.cons_append, List.nil_append, List.length_append, List.length_cons, List.length_nil, Nat.zero_add, Nat.add_assoc, Nat.reduceAdd, ga0, ga1, ga2, ga3, ga4, ga5, sa0, sa1, sa2, sa3, sa4, sa5, S2.setH_H, List.all_cons, List.all_nil, isDefd, nodupB, List.any_nil, Bool.and_true, Bool.not_false, List.foldl_cons, List.foldl_nil])
      rw [set_get (hkl2 _)]
      iterate 2 (conv => whnf; try simp only [List.append_assoc, List.cons_append, List.nil_append, List.length_append, List.length_cons, List.length_nil, Nat.zero_add, Nat.add_assoc, Nat.reduceAdd, ga0, ga1, ga2, ga3, ga4, ga5, sa0, sa1, sa2, sa3, sa4, sa5, S2.setH_H, List.all_cons, List.all_nil, isDefd, nodupB, List.any_nil, Bool.and_true, Bool.not_false, List.foldl_cons, List.foldl_nil])
      refine Call2.mono (wwith_ct G _ k ⟨who, vs, s, nn, tx, gets, most⟩ c (.dat 0 [] .tight) ve (fun n => .dat _ _ _) (by rw [List.set_set, List.getElem?_set_self (hkl2 _)]; rfl) i (un, []) hb) fun r0 H0 h => ?_
      obtain ⟨h1, h2⟩ := h
      rw [h1, h2]
      clear h1 h2 r0 H0
      iterate 2 (conv => whnf; try simp only [List.append_assoc, List.cons_append, List.nil_append, List.length_append, List.length_cons, List.length_nil, Nat.zero_add, Nat.add_assoc, Nat.reduceAdd, ga0, ga1, ga2, ga3, ga4, ga5, sa0, sa1, sa2, sa3, sa4, sa5, S2.setH_H, List.all_cons, List.all_nil, isDefd, nodupB, List.any_nil, Bool.and_true, Bool.not_false, List.foldl_cons, List.foldl_nil])
      refine Call2.mono (wtell_ct G _ k ⟨who, vs, s, nn, tx, gets, most⟩ (withC c i (un, [])) ve (by rw [List.set_set, List.set_set, List.getElem?_set_self (hkl2 _)])) fun r0 H0 h => ?_
      obtain ⟨h1, h2⟩ := h
      rw [h1, h2]
      clear h1 h2 r0 H0
      iterate 2 (conv => whnf; try simp only [List.append_assoc, List.cons_append, List.nil_append, List.length_append, List.length_cons, List.length_nil, Nat.zero_add, Nat.add_assoc, Nat.reduceAdd, ga0, ga1, ga2, ga3, ga4, ga5, sa0, sa1, sa2, sa3, sa4, sa5, S2.setH_H, List.all_cons, List.all_nil, isDefd, nodupB, List.any_nil, Bool.and_true, Bool.not_false, List.foldl_cons, List.foldl_nil])
      refine ⟨.tup [], _, CutW.at hkl (x := wkB ⟨who, vs, s, nn, tx, gets, most⟩ (withC c i (un, [])) (.dat 8 [ccells (withC c i (un, []))] .no) ve) ?_ (fun id h1 h2 => ?_) (wkB_bw _ _ _ _ _ (.dat _ _ _)), .free (.tup _ (by simp)), rfl, rfl⟩
      · rw [List.set_set, List.set_set, List.set_set, List.getElem?_set_self (hkl2 _)]
      · rw [List.set_set, List.set_set, List.set_set, List.getElem?_set_ne (fun h => h1 h.symm), List.getElem?_append_left h2]
  · refine br_f (show decide (ue = 0) = false from decide_eq_false hc) ?_
    rw [if_neg (fun h => hc h.1)]
    iterate 3 (conv => whnf; try simp only [List.append_assoc, List.cons_append, List.nil_append, List.length_append, List.length_cons, List.length_nil, Nat.zero_add, Nat.add_assoc, Nat.reduceAdd, ga0, ga1, ga2, ga3, ga4, ga5, sa0, sa1, sa2, sa3, sa4, sa5, S2.setH_H, List.all_cons, List.all_nil, isDefd, nodupB, List.any_nil, Bool.and_true, Bool.not_false, List.foldl_cons, List.foldl_nil])
    rw [get_app hk]
    iterate 2 (conv => whnf; try simp only [List.append_assoc, List.cons_append, List.nil_append, List.length_append, List.length_cons, List.length_nil, Nat.zero_add, Nat.add_assoc, Nat.reduceAdd, ga0, ga1, ga2, ga3, ga4, ga5, sa0, sa1, sa2, sa3, sa4, sa5, S2.setH_H, List.all_cons, List.all_nil, isDefd, nodupB, List.any_nil, Bool.and_true, Bool.not_false, List.foldl_cons, List.foldl_nil])
    rw [set_get (hkl2 _)]
    iterate 2 (conv => whnf; try simp only [List.append_assoc, List.cons_append, List.nil_append, List.length_append, List.length_cons, List.length_nil, Nat.zero_add, Nat.add_assoc, Nat.reduceAdd, ga0, ga1, ga2, ga3, ga4, ga5, sa0, sa1, sa2, sa3, sa4, sa5, S2.setH_H, List.all_cons, List.all_nil, isDefd, nodupB, List.any_nil, Bool.and_true, Bool.not_false, List.foldl_cons, List.foldl_nil])
    refine Call2.mono (wwith_ct G _ k ⟨who, us, s, nn, tx, gets, most⟩ c (.dat 0 [] .tight) ue (fun n => .dat _ _ _) (by rw [List.set_set, List.getElem?_set_self (hkl2 _)]; rfl) i (un, []) hb) fun r0 H0 h => ?_
    obtain ⟨h1, h2⟩ := h
    rw [h1, h2]
    clear h1 h2 r0 H0
    iterate 2 (conv => whnf; try simp only [List.append_assoc, List.cons_append, List.nil_append, List.length_append, List.length_cons, List.length_nil, Nat.zero_add, Nat.add_assoc, Nat.reduceAdd, ga0, ga1, ga2, ga3, ga4, ga5, sa0, sa1, sa2, sa3, sa4, sa5, S2.setH_H, List.all_cons, List.all_nil, isDefd, nodupB, List.any_nil, Bool.and_true, Bool.not_false, List.foldl_cons, List.foldl_nil])
    refine Call2.mono (wtell_ct G _ k ⟨who, us, s, nn, tx, gets, most⟩ (withC c i (un, [])) ue (by rw [List.set_set, List.set_set, List.getElem?_set_self (hkl2 _)])) fun r0 H0 h => ?_
    obtain ⟨h1, h2⟩ := h
    rw [h1, h2]
    clear h1 h2 r0 H0
    iterate 2 (conv => whnf; try simp only [List.append_assoc, List.cons_append, List.nil_append, List.length_append, List.length_cons, List.length_nil, Nat.zero_add, Nat.add_assoc, Nat.reduceAdd, ga0, ga1, ga2, ga3, ga4, ga5, sa0, sa1, sa2, sa3, sa4, sa5, S2.setH_H, List.all_cons, List.all_nil, isDefd, nodupB, List.any_nil, Bool.and_true, Bool.not_false, List.foldl_cons, List.foldl_nil])
    refine ⟨.tup [], _, CutW.at hkl (x := wkB ⟨who, us, s, nn, tx, gets, most⟩ (withC c i (un, [])) (.dat 8 [ccells (withC c i (un, []))] .no) ue) ?_ (fun id h1 h2 => ?_) (wkB_bw _ _ _ _ _ (.dat _ _ _)), .free (.tup _ (by simp)), rfl, rfl⟩
    · rw [List.set_set, List.set_set, List.set_set, List.getElem?_set_self (hkl2 _)]
    · rw [List.set_set, List.set_set, List.set_set, List.getElem?_set_ne (fun h => h1 h.symm), List.getElem?_append_left h2]
end Go.Abs.Sig

/-! LF5 -/
namespace Go.Abs.Sig
open Go.RowKit Go.Abs
set_option linter.unusedSimpArgs false
set_option linter.unusedVariables false
set_option maxRecDepth 8000
attribute [local irreducible] StCall StYield WPc Weak IterOf Lp2

theorem wgot_ct (G : Nat → Option (List V)) (H : Heap) (hH : H.all noClsB = true) (k : Nat) (l : LeaseL) (c : Cm) (hk : H[k]? = some (wkB l c (.dat 0 [] .tight) 0)) (hl : (l.t.l.length + 1) * 16 ≤ maxBytes) (hb : c.1.2.2.length * 24 ≤ maxBytes)
    (hr : Rising (delL l.t (argOf c.1 0).1 l.most).1.l) (hl2 : (delL l.t (argOf c.1 0).1 l.most).1.l.length * 16 ≤ maxBytes) :
    Call2 Go.Proofs.Tryz.prog G 64 [.ptr k 0] H fun r H' => r = .tup [] ∧ H' = H.set k (match l.gets with
      | [] => wkB l c (.dat 0 [] .tight) 16
      | f :: g => wkB { l with gets := g, t := (delW { l with gets := g } (argOf c.1 0).1 f).1 } (withC c 0 ((delW { l with gets := g } (argOf c.1 0).1 f).2.1, [])) (.dat 8 [ccells (withC c 0 ((delW { l with gets := g } (argOf c.1 0).1 f).2.1, []))] .no) (delW { l with gets := g } (argOf c.1 0).1 f).2.2) := by
  have hkl := lt_of_get hk
  have hf := wfirst_ct G H k l c 0 hk
  obtain ⟨who, t, s, nn, tx, gets, most⟩ := l
  cases gets with
  | nil =>
    refine stCall2 Go.Proofs.Tryz.func64 rfl (by decide) ?_
    conv => whnf
    refine Call2.mono (hf) fun r0 H0 h => ?_
    obtain ⟨h1, h2⟩ := h
    rw [h1, h2]
    clear h1 h2 r0 H0
    conv => whnf
    exact ⟨rfl, rfl⟩
  | cons f g =>
    have hd := wdeliver_ct G (H.set k (wkB ⟨who, t, s, nn, tx, g, most⟩ c (.dat 0 [] .tight) 0)) (all_set hH rfl) k ⟨who, t, s, nn, tx, g, most⟩ c 0 f (set_get hkl) hl hb hr hl2
    refine stCall2 Go.Proofs.Tryz.func64 rfl (by decide) ?_
    conv => whnf
    refine Call2.mono (hf) fun r0 H0 h => ?_
    obtain ⟨h1, h2⟩ := h
    rw [h1, h2]
    clear h1 h2 r0 H0
    conv => whnf
    refine Call2.mono (hd) fun r0 H0 h => ?_
    obtain ⟨h1, h2⟩ := h
    rw [h1, h2]
    clear h1 h2 r0 H0
    conv => whnf
    refine ⟨rfl, ?_⟩
    rw [List.set_set]
end Go.Abs.Sig

/-! LF6 -/
namespace Go.Abs.Sig
open Go.RowKit Go.Abs
set_option linter.unusedSimpArgs false
set_option linter.unusedVariables false
set_option maxRecDepth 8000
attribute [local irreducible] StCall StYield WPc Weak IterOf Lp2

/-- A delivery: under the client's name, with the next number. -/
def wDelivered (l : LeaseL) (c : Cm) : Option Blk := match wNamed l c 0 with
  | (c1, e1, x, false) => wkB l c1 (.dat 0 [] .tight) e1
  | (c1, e1, x, true) => wkB { l with t := (delW l (argOf c1.1 1).1 x.2.2).1 } (withC c1 1 ((delW l (argOf c1.1 1).1 x.2.2).2.1, [])) (.dat 8 [ccells (withC c1 1 ((delW l (argOf c1.1 1).1 x.2.2).2.1, []))] .no) (delW l (argOf c1.1 1).1 x.2.2).2.2
theorem wdelivered_ct (G : Nat → Option (List V)) (H : Heap) (hH : H.all noClsB = true) (k : Nat) (l : LeaseL) (c : Cm) (hk : H[k]? = some (wkB l c (.dat 0 [] .tight) 0)) (hnl : l.n.l.length ≤ maxLen) (hl : (l.t.l.length + 1) * 16 ≤ maxBytes) (hb : c.1.2.2.length * 24 ≤ maxBytes)
    (hb1 : (wNamed l c 0).1.1.2.2.length * 24 ≤ maxBytes) (he1 : (wNamed l c 0).2.2.2 = true → (wNamed l c 0).2.1 = 0)
    (hr : Rising (delL l.t (argOf (wNamed l c 0).1.1 1).1 l.most).1.l) (hl2 : (delL l.t (argOf (wNamed l c 0).1.1 1).1 l.most).1.l.length * 16 ≤ maxBytes) :
    Call2 Go.Proofs.Tryz.prog G 63 [.ptr k 0] H fun r H' => H' = H.set k (wDelivered l c) ∧ r = .tup [] := by
  have hkl := lt_of_get hk
  have hf := wnamed_ct G H hH k l c 0 hk hnl hb
  unfold wDelivered
  generalize wNamed l c 0 = u at hf hb1 he1 hr hl2 ⊢
  obtain ⟨c1, e1, x, is⟩ := u
  simp only at hf hb1 he1 hr hl2 ⊢
  refine Call2.cutW ?_
  refine stCall2 Go.Proofs.Tryz.func63 rfl (by decide) ?_
  conv => whnf
  refine Call2.mono (hf) fun r0 H0 h => ?_
  obtain ⟨h1, h2⟩ := h
  rw [h1, h2]
  clear h1 h2 r0 H0
  conv => whnf
  generalize hH1 : H.set k (wkB l c1 (.dat 0 [] .tight) e1) = H1
  have hk1 : H1[k]? = some (wkB l c1 (.dat 0 [] .tight) e1) := by rw [← hH1]; exact set_get hkl
  have hA1 : H1.all noClsB = true := by rw [← hH1]; exact all_set hH rfl
  have hkl1 := lt_of_get hk1
  have hlen : H1.length = H.length := by rw [← hH1, List.length_set]
  have hoth : ∀ id, id ≠ k → H1[id]? = H[id]? := fun id h => by rw [← hH1, List.getElem?_set_ne (fun h2 => h h2.symm)]
  iterate 3 (conv => whnf; try simp only [List.append_assoc, List.cons_append, List.nil_append, List.length_append, List.length_cons, List.length_nil, Nat.zero_add, Nat.add_assoc, Nat.reduceAdd, ga0, ga1, ga2, ga3, ga4, ga5, sa0, sa1, sa2, sa3, sa4, sa5, S2.setH_H, List.all_cons, List.all_nil, isDefd, nodupB, List.any_nil, Bool.and_true, Bool.not_false, List.foldl_cons, List.foldl_nil])
  cases is
  · iterate 2 (conv => whnf; try simp only [List.append_assoc, List.cons_append, List.nil_append, List.length_append, List.length_cons, List.length_nil, Nat.zero_add, Nat.add_assoc, Nat.reduceAdd, ga0, ga1, ga2, ga3, ga4, ga5, sa0, sa1, sa2, sa3, sa4, sa5, S2.setH_H, List.all_cons, List.all_nil, isDefd, nodupB, List.any_nil, Bool.and_true, Bool.not_false, List.foldl_cons, List.foldl_nil])
    refine ⟨.tup [], _, CutW.at hkl (x := wkB l c1 (.dat 0 [] .tight) e1) (get_app hk1) (fun id h1 h2 => by rw [List.getElem?_append_left (by omega)]; exact hoth id h1) (wkB_bw _ _ _ _ _ (.dat _ _ _)), .free (.tup _ (by simp)), rfl, rfl⟩
  · obtain rfl := he1 rfl
    iterate 2 (conv => whnf; try simp only [List.append_assoc, List.cons_append, List.nil_append, List.length_append, List.length_cons, List.length_nil, Nat.zero_add, Nat.add_assoc, Nat.reduceAdd, ga0, ga1, ga2, ga3, ga4, ga5, sa0, sa1, sa2, sa3, sa4, sa5, S2.setH_H, List.all_cons, List.all_nil, isDefd, nodupB, List.any_nil, Bool.and_true, Bool.not_false, List.foldl_cons, List.foldl_nil])
    refine Call2.mono (wdeliver_ct G _ (all_app hA1 rfl) k l c1 1 x.2.2 (get_app hk1) hl hb1 hr hl2) fun r0 H0 h => ?_
    obtain ⟨h1, h2⟩ := h
    rw [h1, h2]
    clear h1 h2 r0 H0
    conv => whnf
    refine ⟨.tup [], _, CutW.at hkl (x := wkB { l with t := (delW l (argOf c1.1 1).1 x.2.2).1 } (withC c1 1 ((delW l (argOf c1.1 1).1 x.2.2).2.1, [])) (.dat 8 [ccells (withC c1 1 ((delW l (argOf c1.1 1).1 x.2.2).2.1, []))] .no) (delW l (argOf c1.1 1).1 x.2.2).2.2) ?_ (fun id h1 h2 => ?_) (wkB_bw _ _ _ _ _ (.dat _ _ _)), .free (.tup _ (by simp)), rfl, rfl⟩
    · rw [List.getElem?_set_self (by rw [List.length_append]; omega)]
    · rw [List.getElem?_set_ne (fun h => h1 h.symm), List.getElem?_append_left (by omega)]
      exact hoth id h1
end Go.Abs.Sig

/-! LQ1 -/
namespace Go.Abs.Sig
open Go.RowKit Go.Abs
set_option linter.unusedSimpArgs false
set_option linter.unusedVariables false
set_option maxRecDepth 8000
attribute [local irreducible] StCall StYield WPc Weak IterOf Lp2

/-- A consumer isn't there any more. -/
def wCancelled (l : LeaseL) (c : Cm) : LeaseL × Cm × List Cm × Int := match wNamed l c 0 with
  | (c1, e1, x, false) => (l, c1, [], e1)
  | (c1, e1, x, true) => ({ l with n := (dropL l.n x.1).1 }, c1, [c1], e1)
/-- What is told, as it is held. -/
def outV (l : List Cm) : V := .dat 8 (l.map ccells) .no
theorem outV_nil (n : Nat) : VW n (.dat 0 [] .tight) (outV []) := .nil _ _ _ _ (.inl rfl)
theorem wcancelled_ct (G : Nat → Option (List V)) (H : Heap) (hH : H.all noClsB = true) (k : Nat) (l : LeaseL) (c : Cm) (hk : H[k]? = some (wkB l c (.dat 0 [] .tight) 0)) (hnl : l.n.l.length * 40 ≤ maxBytes) (hb : c.1.2.2.length * 24 ≤ maxBytes) :
    Call2 Go.Proofs.Tryz.prog G 62 [.ptr k 0] H fun r H' => H' = H.set k (wkB (wCancelled l c).1 (wCancelled l c).2.1 (outV (wCancelled l c).2.2.1) (wCancelled l c).2.2.2) ∧ r = .tup [] := by
  have hkl := lt_of_get hk
  have hmb : maxBytes = 140737488355328 := rfl
  have hmx : maxLen = 9223372036854775807 := rfl
  have hf := wnamed_ct G H hH k l c 0 hk (by omega) hb
  have hdr := fun x => drop_ct G l.n x hnl
  unfold wCancelled
  generalize wNamed l c 0 = u at hf ⊢
  obtain ⟨c1, e1, x, is⟩ := u
  simp only at hf ⊢
  refine Call2.cutW ?_
  refine stCall2 Go.Proofs.Tryz.func62 rfl (by decide) ?_
  conv => whnf
  refine Call2.mono (hf) fun r0 H0 h => ?_
  obtain ⟨h1, h2⟩ := h
  rw [h1, h2]
  clear h1 h2 r0 H0
  conv => whnf
  generalize hH1 : H.set k (wkB l c1 (.dat 0 [] .tight) e1) = H1
  have hk1 : H1[k]? = some (wkB l c1 (.dat 0 [] .tight) e1) := by rw [← hH1]; exact set_get hkl
  have hA1 : H1.all noClsB = true := by rw [← hH1]; exact all_set hH rfl
  have hkl1 := lt_of_get hk1
  have hlen : H1.length = H.length := by rw [← hH1, List.length_set]
  have hoth : ∀ id, id ≠ k → H1[id]? = H[id]? := fun id h => by rw [← hH1, List.getElem?_set_ne (fun h2 => h h2.symm)]
  have hkl2 : ∀ L : Heap, k < (H1 ++ L).length := fun L => by rw [List.length_append]; omega
  iterate 3 (conv => whnf; try simp only [List.append_assoc, List.cons_append, List.nil_append, List.length_append, List.length_cons, List.length_nil, Nat.zero_add, Nat.add_assoc, Nat.reduceAdd, ga0, ga1, ga2, ga3, ga4, ga5, sa0, sa1, sa2, sa3, sa4, sa5, S2.setH_H, List.all_cons, List.all_nil, isDefd, nodupB, List.any_nil, Bool.and_true, Bool.not_false, List.foldl_cons, List.foldl_nil])
  cases is
  · iterate 2 (conv => whnf; try simp only [List.append_assoc, List.cons_append, List.nil_append, List.length_append, List.length_cons, List.length_nil, Nat.zero_add, Nat.add_assoc, Nat.reduceAdd, ga0, ga1, ga2, ga3, ga4, ga5, sa0, sa1, sa2, sa3, sa4, sa5, S2.setH_H, List.all_cons, List.all_nil, isDefd, nodupB, List.any_nil, Bool.and_true, Bool.not_false, List.foldl_cons, List.foldl_nil])
    refine ⟨.tup [], _, CutW.at hkl (x := wkB l c1 (.dat 0 [] .tight) e1) (get_app hk1) (fun id h1 h2 => by rw [List.getElem?_append_left (by omega)]; exact hoth id h1) ?_, .free (.tup _ (by simp)), rfl, rfl⟩
    exact wkV_bw (.dat _ _ _) (.dat _ _ _) (.dat _ _ _) (.dat _ _ _) (outV_nil _)
  · have hd := hdr x.1
    simp only
    generalize dropL l.n x.1 = v at hd ⊢
    obtain ⟨vn, vb⟩ := v
    obtain ⟨who, t, s, nn, tx, gets, most⟩ := l
    iterate 2 (conv => whnf; try simp only [List.append_assoc, List.cons_append, List.nil_append, List.length_append, List.length_cons, List.length_nil, Nat.zero_add, Nat.add_assoc, Nat.reduceAdd, ga0, ga1, ga2, ga3, ga4, ga5, sa0, sa1, sa2, sa3, sa4, sa5, S2.setH_H, List.all_cons, List.all_nil, isDefd, nodupB, List.any_nil, Bool.and_true, Bool.not_false, List.foldl_cons, List.foldl_nil])
    intro hw2
    refine wpc_drawG2 [15] [] [] (by rfl) (by decide) (by decide) hw2 ?_
    conv => whnf
    rw [get_app hk1]
    iterate 3 (conv => whnf; try simp only [List.append_assoc, List.cons_append, List.nil_append, List.length_append, List.length_cons, List.length_nil, Nat.zero_add, Nat.add_assoc, Nat.reduceAdd, ga0, ga1, ga2, ga3, ga4, ga5, sa0, sa1, sa2, sa3, sa4, sa5, S2.setH_H, List.all_cons, List.all_nil, isDefd, nodupB, List.any_nil, Bool.and_true, Bool.not_false, List.foldl_cons, List.foldl_nil])
    rw [ga0]
    conv => whnf
    refine ⟨_, fun X _ => hd _, ?_⟩
    iterate 3 (conv => whnf; try simp only [List.append_assoc, List.cons_append, List.nil_append, List.length_append, List.length_cons, List.length_nil, Nat.zero_add, Nat.add_assoc, Nat.reduceAdd, ga0, ga1, ga2, ga3, ga4, ga5, sa0, sa1, sa2, sa3, sa4, sa5, S2.setH_H, List.all_cons, List.all_nil, isDefd, nodupB, List.any_nil, Bool.and_true, Bool.not_false, List.foldl_cons, List.foldl_nil])
    rw [get_app hk1]
    iterate 3 (conv => whnf; try simp only [List.append_assoc, List.cons_append, List.nil_append, List.length_append, List.length_cons, List.length_nil, Nat.zero_add, Nat.add_assoc, Nat.reduceAdd, ga0, ga1, ga2, ga3, ga4, ga5, sa0, sa1, sa2, sa3, sa4, sa5, S2.setH_H, List.all_cons, List.all_nil, isDefd, nodupB, List.any_nil, Bool.and_true, Bool.not_false, List.foldl_cons, List.foldl_nil])
    refine grd_intro (dqOkL_of (all_app hA1 rfl) (all_set (all_app hA1 rfl) rfl)) ?_
    conv => whnf
    refine Call2.mono (wtell_ct G _ k ⟨who, t, s, vn, tx, gets, most⟩ c1 e1 (by rw [List.getElem?_set_self (hkl2 _)]; rfl)) fun r0 H0 h => ?_
    obtain ⟨h1, h2⟩ := h
    rw [h1, h2]
    clear h1 h2 r0 H0
    conv => whnf
    refine ⟨.tup [], _, CutW.at hkl (x := wkB ⟨who, t, s, vn, tx, gets, most⟩ c1 (.dat 8 [ccells c1] .no) e1) ?_ (fun id h1 h2 => ?_) (wkB_bw _ _ _ _ _ (.dat _ _ _)), .free (.tup _ (by simp)), rfl, rfl⟩
    · rw [List.set_set, List.getElem?_set_self (hkl2 _)]
    · rw [List.set_set, List.getElem?_set_ne (fun h => h1 h.symm), List.getElem?_append_left (by omega)]
      exact hoth id h1
end Go.Abs.Sig

/-! LD1 -/
namespace Go.Abs.Sig
open Go.RowKit Go.Abs
set_option linter.unusedSimpArgs false
set_option linter.unusedVariables false
set_option maxRecDepth 8000
attribute [local irreducible] StCall StYield WPc Weak IterOf Lp2

/-! numbers: the first of which something is so; is there one? -/
def nuIxS (l : List Int) (g : Nat) (caps : List V) (j : Nat) (H : Heap) : S2 := headS 19 ([.dat 1 (numR l) .no, .fn (.func g) [] caps, .bad, .bad, .bad, .bad, .bad, .int .i64 (l.length : Int), .int .i64 (j : Int)] ++ List.replicate 10 .bad) H [] none
theorem nuIndex_ct (G : Nat → Option (List V)) (l : List Int) (hl : l.length ≤ maxLen) (g : FuncId) (caps : List V) (p : Int → Bool) (H : Heap) (hcaps : ∀ v ∈ caps, VW H.length v v ∧ v.strip = v)
    (hg : ∀ x ∈ l, Call2 Go.Proofs.Tryz.prog G g ([.int .u64 x] ++ caps) H fun v H' => H' = H ∧ v = .bool (p x)) :
    Call2 Go.Proofs.Tryz.prog G 153 [.dat 1 (numR l) .no, .fn (.func g) [] caps] H fun v H' => H' = H ∧ v = .int .i64 (idxI (l.findIdx? p)) := by
  refine Call2.inScope ⟨_, Go.Proofs.Tryz.func153, rfl, by decide⟩ fun hs => ?_
  have hl' : l.length ≤ 9223372036854775807 := hl
  have hvl : (numR l).length = l.length := by simp [numR]
  have hst : caps.map V.strip = caps := by
    conv => rhs; rw [← List.map_id caps]
    exact List.map_congr_left fun v hv => (hcaps v hv).2
  have hfn : VW H.length (.fn (.func g) [] caps) (.fn (.func g) [] caps) := .fn _ _ _ (fun i v h => by simp at h) (fun i v h => (hcaps v (List.mem_of_getElem? h)).1)
  refine stCall2 Go.Proofs.Tryz.func153 rfl (by decide) ?_
  conv => whnf
  rw [hvl]
  intro hw
  refine wpc_loop2 (fun n1 s1 => ∃ j : Nat, j ≤ l.length ∧ n1 = l.length - j ∧ s1 = nuIxS l g caps j H ∧ ∀ x ∈ l.take j, p x = false) l.length (nuIxS l g caps 0 H) ?_ ⟨0, by omega, rfl, rfl, by simp⟩ ?_ ?_
  · exact weak2 hw rfl ⟨.dat _ _ _, hfn, .im _, .im _, trivial⟩ hs.bws (fun id hid => by cases hid) rfl (fun id hid => by cases hid)
  · rintro n1 s1 ⟨j, _, _, rfl, _⟩
    exact ⟨⟨Nat.le_refl 19, fun x hx => by cases hx⟩, rfl, Nat.le_refl _, rfl⟩
  rintro n1 s1 ⟨j, hj, rfl, rfl, hinv⟩
  by_cases hjl : j < l.length
  · have hd0 : (true && true && decide ((0 : Int) ≤ (j : Int))) = true := by simp
    have hwj : IntKind.i64.wrap ((j : Int) + 1) = ((j + 1 : Nat) : Int) := by rw [wrap_i64 (by omega) (by omega)]; rfl
    have hg1 : (numR l)[Int.toNat (j : Int)]? = some [.int .u64 l[j]] := rowGet _ l j hjl
    have hc := hg l[j] (List.getElem_mem hjl)
    have ht : ∀ x ∈ l.take (j + 1), x ∈ l.take j ∨ x = l[j] := fun x hx => by
      rw [List.take_succ_eq_append_getElem hjl] at hx
      exact (List.mem_append.1 hx).imp id List.mem_singleton.1
    have hfa := findIdx_at p l j hjl hinv
    have hpj : p l[j] = p l[j] := rfl
    generalize hb : p l[j] = b at hc hfa hpj
    conv => whnf
    refine br_t (decide_eq_true (by omega)) ?_
    conv => whnf
    refine grd_intro hd0 (optK_intro hg1 ?_)
    conv => whnf
    have hc' : Call2 Go.Proofs.Tryz.prog G g (List.map V.strip ([] ++ [.int .u64 l[j]] ++ caps)) H fun v H' => H' = H ∧ v = .bool b := by
      rw [List.map_append, hst]; exact hc
    refine Call2.mono hc' fun r0 H0 h => ?_
    obtain ⟨h1, h2⟩ := h
    rw [h1, h2]
    clear h1 h2 r0 H0
    conv => whnf
    cases b
    · conv => whnf
      intro hw2
      refine ⟨l.length - (j + 1), nuIxS l g caps (j + 1) H, by omega, ?_, j + 1, by omega, rfl, rfl, fun x hx => ?_⟩
      · exact weak2 hw2 rfl ⟨.dat _ _ _, hfn, .im _, .int hwj, trivial⟩ hs.bws (fun id hid => by cases hid) rfl (fun id hid => by cases hid)
      · rcases ht x hx with h | rfl
        · exact hinv x h
        · exact hb
    · conv => whnf
      refine ⟨rfl, ?_⟩
      rw [hfa rfl]
      rfl
  · conv => whnf
    refine br_f (decide_eq_false (by omega)) ?_
    conv => whnf
    refine ⟨rfl, ?_⟩
    rw [findIdx_no p l (by rw [← List.take_of_length_le (show l.length ≤ j by omega)]; exact hinv)]
    rfl
theorem idxI_any {α : Type} (p : α → Bool) (l : List α) : decide (0 ≤ idxI (l.findIdx? p)) = l.any p := by
  cases h : l.findIdx? p with
  | none =>
    rw [List.findIdx?_eq_none_iff] at h
    show false = _
    symm
    rw [List.any_eq_false]
    intro x hx
    rw [h x hx]
    simp
  | some i =>
    have := findIdx_find p l
    rw [h] at this
    obtain ⟨hi, h2⟩ := this
    have h3 := List.find?_some h2
    show decide (0 ≤ ((i : Nat) : Int)) = _
    rw [decide_eq_true (by omega)]
    symm
    rw [List.any_eq_true]
    exact ⟨_, List.getElem_mem hi, h3⟩
theorem containsF_ct (G : Nat → Option (List V)) (l : List Int) (hl : l.length ≤ maxLen) (g : FuncId) (caps : List V) (p : Int → Bool) (H : Heap) (hcaps : ∀ v ∈ caps, VW H.length v v ∧ v.strip = v)
    (hg : ∀ x ∈ l, Call2 Go.Proofs.Tryz.prog G g ([.int .u64 x] ++ caps) H fun v H' => H' = H ∧ v = .bool (p x)) :
    Call2 Go.Proofs.Tryz.prog G 135 [.dat 1 (numR l) .no, .fn (.func g) [] caps] H fun v H' => H' = H ∧ v = .bool (l.any p) := by
  have hi := nuIndex_ct G l hl g caps p H hcaps hg
  rw [← idxI_any]
  generalize idxI (l.findIdx? p) = n at hi ⊢
  refine stCall2 Go.Proofs.Tryz.func135 rfl (by decide) ?_
  conv => whnf
  refine Call2.mono (hi) fun r0 H0 h => ?_
  obtain ⟨h1, h2⟩ := h
  rw [h1, h2]
  clear h1 h2 r0 H0
  conv => whnf
  exact ⟨rfl, rfl⟩

def nvS (l : List Int) (v : Int) (j : Nat) : S2 := headS 19 ([.dat 1 (numR l) .no, .int .u64 v, .bad, .bad, .bad, .bad, .bad, .int .i64 (l.length : Int), .int .i64 (j : Int)] ++ List.replicate 10 .bad) [] [] none
theorem nvIndex_ct (G : Nat → Option (List V)) (l : List Int) (hl : l.length ≤ maxLen) (v : Int) (H : Heap) :
    Call2 Go.Proofs.Tryz.prog G 151 [.dat 1 (numR l) .no, .int .u64 v] H fun r H' => H' = H ∧ r = .int .i64 (idxI (l.findIdx? fun x => decide (v = x))) := by
  refine Call2.free (fun y hy => by
    simp only [List.mem_cons, List.not_mem_nil, or_false] at hy
    rcases hy with rfl | rfl
    · exact .dat _ _ _ (by simp)
    · exact .im _) ?_ H
  have hl' : l.length ≤ 9223372036854775807 := hl
  have hvl : (numR l).length = l.length := by simp [numR]
  refine stCall2 Go.Proofs.Tryz.func151 rfl (by decide) ?_
  conv => whnf
  rw [hvl]
  intro hw
  refine wpc_loop2 (fun n1 s1 => ∃ j : Nat, j ≤ l.length ∧ n1 = l.length - j ∧ s1 = nvS l v j ∧ ∀ x ∈ l.take j, decide (v = x) = false) l.length (nvS l v 0) ?_ ⟨0, by omega, rfl, rfl, by simp⟩ ?_ ?_
  · exact weak2 hw rfl ⟨.dat _ _ _, .im _, .im _, .im _, trivial⟩ (.nil _) (fun id hid => by cases hid) rfl (fun id hid => by cases hid)
  · rintro n1 s1 ⟨j, _, _, rfl, _⟩
    exact ⟨⟨Nat.le_refl 19, fun x hx => by cases hx⟩, rfl, Nat.le_refl _, rfl⟩
  rintro n1 s1 ⟨j, hj, rfl, rfl, hinv⟩
  by_cases hjl : j < l.length
  · have hd0 : (true && true && decide ((0 : Int) ≤ (j : Int))) = true := by simp
    have hwj : IntKind.i64.wrap ((j : Int) + 1) = ((j + 1 : Nat) : Int) := by rw [wrap_i64 (by omega) (by omega)]; rfl
    have hg1 : (numR l)[Int.toNat (j : Int)]? = some [.int .u64 l[j]] := rowGet _ l j hjl
    have hfa := findIdx_at (fun x => decide (v = x)) l j hjl hinv
    have ht : ∀ x ∈ l.take (j + 1), x ∈ l.take j ∨ x = l[j] := fun x hx => by
      rw [List.take_succ_eq_append_getElem hjl] at hx
      exact (List.mem_append.1 hx).imp id List.mem_singleton.1
    conv => whnf
    refine br_t (decide_eq_true (by omega)) ?_
    conv => whnf
    refine grd_intro hd0 (optK_intro hg1 ?_)
    conv => whnf
    by_cases hv : v = l[j]
    · refine br_t (decide_eq_true hv) ?_
      conv => whnf
      refine ⟨.im _, ?_⟩
      rw [hfa (decide_eq_true hv)]
      rfl
    · refine br_f (decide_eq_false hv) ?_
      conv => whnf
      intro hw2
      refine ⟨l.length - (j + 1), nvS l v (j + 1), by omega, ?_, j + 1, by omega, rfl, rfl, fun x hx => ?_⟩
      · exact weak2 hw2 rfl ⟨.dat _ _ _, .im _, .im _, .int hwj, trivial⟩ (.nil _) (fun id hid => by cases hid) rfl (fun id hid => by cases hid)
      · rcases ht x hx with h | rfl
        · exact hinv x h
        · exact decide_eq_false hv
  · conv => whnf
    refine br_f (decide_eq_false (by omega)) ?_
    conv => whnf
    refine ⟨.im _, ?_⟩
    rw [findIdx_no _ l (by rw [← List.take_of_length_le (show l.length ≤ j by omega)]; exact hinv)]
    rfl
theorem nuContains_ct (G : Nat → Option (List V)) (l : List Int) (hl : l.length ≤ maxLen) (v : Int) (H : Heap) :
    Call2 Go.Proofs.Tryz.prog G 130 [.dat 1 (numR l) .no, .int .u64 v] H fun r H' => H' = H ∧ r = .bool (l.any fun x => decide (v = x)) := by
  have hi := nvIndex_ct G l hl v H
  rw [← idxI_any]
  generalize idxI (l.findIdx? fun x => decide (v = x)) = n at hi ⊢
  refine stCall2 Go.Proofs.Tryz.func130 rfl (by decide) ?_
  conv => whnf
  refine Call2.mono (hi) fun r0 H0 h => ?_
  obtain ⟨h1, h2⟩ := h
  rw [h1, h2]
  clear h1 h2 r0 H0
  conv => whnf
  exact ⟨rfl, rfl⟩
end Go.Abs.Sig

/-! LQ2 -/
namespace Go.Abs.Sig
open Go.RowKit Go.Abs
set_option linter.unusedSimpArgs false
set_option linter.unusedVariables false
set_option maxRecDepth 8000
attribute [local irreducible] StCall StYield WPc Weak IterOf Lp2

/-! which numbers are confirmed -/
def isC (all : Bool) (top : Int) (many : Bool) (n : Int) : Bool := all || (decide (n = top) || (many && decide (n < top)))
theorem cis_ct (G : Nat → Option (List V)) (H : Heap) (a b m : Nat) (all many : Bool) (top : Int) (ha : H[a]? = some (some (.cells 4 [.bool all]))) (hb : H[b]? = some (some (.cells 22 [.int .u64 top]))) (hm : H[m]? = some (some (.cells 4 [.bool many]))) (n : Int) :
    Call2 Go.Proofs.Tryz.prog G 131 ([.int .u64 n] ++ [.ptr a 0, .ptr b 0, .ptr m 0]) H fun r H' => H' = H ∧ r = .bool (isC all top many n) := by
  refine stCall2 Go.Proofs.Tryz.func131 rfl (by decide) ?_
  conv => whnf
  rw [ha]
  conv => whnf
  cases all
  · conv => whnf
    rw [hb]
    conv => whnf
    unfold isC
    by_cases h1 : n = top
    · refine br_t (show bsel false true (decide (n = top)) = true from decide_eq_true h1) ?_
      conv => whnf
      rw [decide_eq_true h1]
      exact ⟨rfl, rfl⟩
    · refine br_f (show bsel false true (decide (n = top)) = false from decide_eq_false h1) ?_
      conv => whnf
      rw [decide_eq_false h1, hm]
      conv => whnf
      cases many
      · conv => whnf
        exact ⟨rfl, rfl⟩
      · conv => whnf
        rw [hb]
        conv => whnf
        exact ⟨rfl, rfl⟩
  · conv => whnf
    exact ⟨rfl, rfl⟩
theorem cnot_ct (G : Nat → Option (List V)) (H : Heap) (q : Nat) (g : FuncId) (caps : List V) (p : Int → Bool) (hq : H[q]? = some (some (.cells 189 [.fn (.func g) [] caps]))) (hcaps : ∀ v ∈ caps, v.strip = v) (n : Int) (hp : Call2 Go.Proofs.Tryz.prog G g ([.int .u64 n] ++ caps) H fun r H' => H' = H ∧ r = .bool (p n)) :
    Call2 Go.Proofs.Tryz.prog G 133 ([.int .u64 n] ++ [.ptr q 0]) H fun r H' => H' = H ∧ r = .bool (!p n) := by
  have hst : caps.map V.strip = caps := by
    conv => rhs; rw [← List.map_id caps]
    exact List.map_congr_left fun v hv => hcaps v hv
  refine stCall2 Go.Proofs.Tryz.func133 rfl (by decide) ?_
  conv => whnf
  rw [hq]
  conv => whnf
  have hc' : Call2 Go.Proofs.Tryz.prog G g (List.map V.strip ([] ++ [.int .u64 n] ++ caps)) H fun v H' => H' = H ∧ v = .bool (p n) := by
    rw [List.map_append, hst]; exact hp
  refine Call2.mono hc' fun r0 H0 h => ?_
  obtain ⟨h1, h2⟩ := h
  rw [h1, h2]
  clear h1 h2 r0 H0
  conv => whnf
  exact ⟨rfl, rfl⟩
theorem those_ct (G : Nat → Option (List V)) (l : List Int) (g : FuncId) (caps : List V) (hcaps : ∀ v ∈ caps, v.strip = v) (H : Heap) :
    Call2 Go.Proofs.Tryz.prog G 132 [.dat 1 (numR l) .no, .fn (.func g) [] caps] H fun r H' => H' = H ++ [some (.cells 26 [.dat 1 (numR l) .no]), some (.cells 189 [.fn (.func g) [] caps])] ∧ r = .fn (.func 152) [] [.ptr H.length 0, .ptr (H.length + 1) 0] := by
  refine stCall2 Go.Proofs.Tryz.func132 rfl (by decide) ?_
  iterate 3 (conv => whnf; try simp only [List.append_assoc, List.cons_append, List.nil_append, List.length_append, List.length_cons, List.length_nil, Nat.zero_add, Nat.add_assoc, Nat.reduceAdd, ga0, ga1, ga2, ga3, ga4, ga5, sa0, sa1, sa2, sa3, sa4, sa5, S2.setH_H, List.all_cons, List.all_nil, isDefd, nodupB, List.any_nil, Bool.and_true, Bool.not_false, List.foldl_cons, List.foldl_nil])
  exact ⟨trivial, rfl⟩

theorem filter_at {l : List Int} {p : Int → Bool} {j : Nat} (hj : j < l.length) (hp : p l[j] = true) : (l.filter p)[((l.take j).filter p).length]? = some l[j] := by
  have h1 : l = l.take j ++ l[j] :: l.drop (j + 1) := by rw [← List.drop_eq_getElem_cons hj, List.take_append_drop]
  have h2 : l.filter p = (l.take j).filter p ++ (l[j] :: (l.drop (j + 1)).filter p) := by
    conv => lhs; rw [h1]
    rw [List.filter_append, List.filter_cons_of_pos hp]
  rw [h2, List.getElem?_append_right (Nat.le_refl _), Nat.sub_self]
  rfl
def thS (id a b : Nat) (l : List Int) (j : Nat) (H : Heap) : S2 := headS 22 ([.yld id, .ptr a 0, .ptr b 0, .bad, .bad, .bad, .dat 1 (numR l) .no, .int .i64 (l.length : Int), .int .i64 (j : Int)] ++ List.replicate 13 .bad) H [] none
/-- What is asked of the predicate that is kept in a block. -/
structure PredK (G : Nat → Option (List V)) (l : List Int) (a b : Nat) (g : FuncId) (caps : List V) (p : Int → Bool) (H : Heap) : Prop where
  a : H[a]? = some (some (.cells 26 [.dat 1 (numR l) .no]))
  b : H[b]? = some (some (.cells 189 [.fn (.func g) [] caps]))
  p : ∀ n ∈ l, Call2 Go.Proofs.Tryz.prog G g ([.int .u64 n] ++ caps) H fun r H' => H' = H ∧ r = .bool (p n)
theorem those1_ct (G : Nat → Option (List V)) (l : List Int) (hl : l.length ≤ maxBytes) (a b : Nat) (g : FuncId) (caps : List V) (hcaps : ∀ v ∈ caps, v.strip = v) (p : Int → Bool) :
    IterOf Go.Proofs.Tryz.prog G 152 [] [.ptr a 0, .ptr b 0] (numR (l.filter p)) (PredK G l a b g caps p) := by
  have hmb : maxBytes = 140737488355328 := rfl
  have hvl : (numR l).length = l.length := by simp [numR]
  have hst : caps.map V.strip = caps := by
    conv => rhs; rw [← List.map_id caps]
    exact List.map_congr_left fun v hv => hcaps v hv
  refine IterOf.mk fun id n Inv Fin H hI hF hy hend h0 hs => ?_
  obtain ⟨hn, hid, hk0⟩ := hI 0 H h0
  have hka : a < n := hn ▸ (List.getElem?_eq_some_iff.1 hk0.a).1
  have hkb : b < n := hn ▸ (List.getElem?_eq_some_iff.1 hk0.b).1
  refine (stCall2 Go.Proofs.Tryz.func152 rfl (by decide) ?_).2
  conv => whnf
  rw [hk0.a]
  conv => whnf
  rw [hvl]
  intro hw
  refine wpc_loop2 (fun m s1 => ∃ (j : Nat) (H' : Heap), m = l.length - j ∧ j ≤ l.length ∧ Inv ((l.take j).filter p).length H' ∧ Scoped H' ∧ s1 = thS id a b l j H') l.length (thS id a b l 0 H) ?_ ⟨0, H, rfl, by omega, h0, hs, rfl⟩ ?_ ?_
  · exact weak2 hw rfl ⟨.yld _ (by omega), .ptr _ _ (by omega), .ptr _ _ (by omega), .dat _ _ _, .im _, .im _, trivial⟩ hs.bws (fun id hid => by cases hid) rfl (fun id hid => by cases hid)
  · rintro m s1 ⟨j, H', rfl, hj, hI', hs', rfl⟩
    refine ⟨⟨Nat.le_refl 22, fun x hx => by cases hx⟩, rfl, ?_, rfl⟩
    show H.length ≤ H'.length
    rw [(hI _ H' hI').1, ← hn]
    exact Nat.le_refl _
  rintro m s1 ⟨j, H', rfl, hj, hI', hs', rfl⟩
  obtain ⟨hn', _, hk⟩ := hI _ H' hI'
  by_cases hjl : j < l.length
  · have hd0 : (true && true && decide ((0 : Int) ≤ (j : Int))) = true := by simp
    have hwj : IntKind.i64.wrap ((j : Int) + 1) = ((j + 1 : Nat) : Int) := by rw [wrap_i64 (by omega) (by omega)]; rfl
    have hg1 : (numR l)[Int.toNat (j : Int)]? = some [.int .u64 l[j]] := rowGet _ l j hjl
    have hpc := hk.p l[j] (List.getElem_mem hjl)
    have hft := filter_take_succ (p := p) hjl
    conv => whnf
    refine br_t (decide_eq_true (by omega)) ?_
    conv => whnf
    refine grd_intro hd0 (optK_intro hg1 ?_)
    conv => whnf
    rw [hk.b]
    conv => whnf
    have hc' : Call2 Go.Proofs.Tryz.prog G g (List.map V.strip ([] ++ [.int .u64 l[j]] ++ caps)) H' fun v H'' => H'' = H' ∧ v = .bool (p l[j]) := by
      rw [List.map_append, hst]; exact hpc
    refine Call2.mono hc' fun r0 H0 h => ?_
    obtain ⟨h1, h2⟩ := h
    rw [h1, h2]
    clear h1 h2 r0 H0
    cases hp : p l[j] with
    | false =>
      conv => whnf
      rw [hp] at hft
      intro hw2
      refine ⟨l.length - (j + 1), thS id a b l (j + 1) H', by omega, ?_, j + 1, H', rfl, by omega, by rw [hft]; simpa using hI', hs', rfl⟩
      exact weak2 hw2 rfl ⟨.yld _ (by omega), .ptr _ _ (by omega), .ptr _ _ (by omega), .dat _ _ _, .im _, .int hwj, trivial⟩ hs'.bws (fun id hid => by cases hid) rfl (fun id hid => by cases hid)
    | true =>
      rw [hp] at hft
      have hit : (numR (l.filter p))[((l.take j).filter p).length]? = some [.int .u64 l[j]] := by
        unfold numR
        rw [List.getElem?_map, filter_at hjl hp]
        rfl
      have hlen2 : ((l.take (j + 1)).filter p).length = ((l.take j).filter p).length + 1 := by rw [hft]; simp
      conv => whnf
      have hfr := (hy _ _ H' hit hI' hs').frame [] hs' (fun v hv => by
        obtain rfl := List.mem_singleton.1 hv
        exact ⟨.im _, rfl⟩) (fun c hc => by cases hc)
      rw [List.append_nil] at hfr
      refine StYield.mono (show StYield Go.Proofs.Tryz.prog G id _ _ _ from hfr) ?_
      rintro r1 H1 ⟨H3, rfl, hl3, hs3, h5⟩
      rw [List.append_nil]
      rcases h5 with ⟨rfl, h6⟩ | ⟨rfl, h6⟩
      · rw [← hlen2] at h6
        conv => whnf
        intro hw2
        refine ⟨l.length - (j + 1), thS id a b l (j + 1) H3, by omega, ?_, j + 1, H3, rfl, by omega, h6, hs3, rfl⟩
        exact weak2 hw2 rfl ⟨.yld _ (show id < H3.length by omega), .ptr _ _ (show a < H3.length by omega), .ptr _ _ (show b < H3.length by omega), .dat _ _ _, .im _, .int hwj, trivial⟩ hs3.bws (fun id hid => by cases hid) rfl (fun id hid => by cases hid)
      · conv => whnf
        exact h6
  · have hje : j = l.length := by omega
    subst hje
    rw [List.take_length] at hI'
    conv => whnf
    refine br_f (decide_eq_false (by omega)) ?_
    conv => whnf
    exact hend H' (by rw [show (numR (l.filter p)).length = (l.filter p).length by simp [numR]]; exact hI')
end Go.Abs.Sig

/-! LQ3 -/
namespace Go.Abs.Sig
open Go.RowKit Go.Abs
set_option linter.unusedSimpArgs false
set_option linter.unusedVariables false
set_option maxRecDepth 8000
attribute [local irreducible] StCall StYield WPc Weak IterOf Lp2

def conL (s : SeqL) (all : Bool) (top : Int) (many : Bool) : SeqL × List Int × Int := ({ s with l := s.l.filter fun n => !isC all top many n }, s.l.filter (isC all top many), 0)
/-- Confirm: those that are, and those that are left. -/
def confL (s : SeqL) (up : Int) (many : Bool) : SeqL × List Int × Int :=
  if (many && decide (up = 0)) = false ∧ (s.on = false ∨ up ≤ s.off ∨ (s.l.any fun x => decide (IntKind.u64.wrap (up - s.off) = x)) = false) then (s, [], 16)
  else conL s (many && decide (up = 0)) (IntKind.u64.wrap (up - s.off)) many
def b0S : List V := [.bool false, .int .u64 0, .int .u64 0, .dat 0 [] .tight]
def conH1 (s : SeqL) (all many : Bool) (top : Int) (x : List Int) : Heap :=
  [some (.cells 28 (seqC s)), some (.cells 4 [.bool many]), some (.cells 28 b0S), some (.cells 22 [.int .u64 top]), some (.cells 4 [.bool all]), some (.cells 189 [.fn (.func 131) [] [.ptr 4 0, .ptr 3 0, .ptr 1 0]]),
    some (.cells 26 [.dat 1 (numR x) (.cls 55)]), some (.cells 26 [.dat 0 [] .tight]), some (.cells 26 [.dat 1 (numR s.l) .no]), some (.cells 189 [.fn (.func 131) [] [.ptr 4 0, .ptr 3 0, .ptr 1 0]])]
def conH2 (s : SeqL) (all many : Bool) (top : Int) (o x : List Int) : Heap :=
  [some (.cells 28 (seqC s)), some (.cells 4 [.bool many]), some (.cells 28 b0S), some (.cells 22 [.int .u64 top]), some (.cells 4 [.bool all]), some (.cells 189 [.fn (.func 131) [] [.ptr 4 0, .ptr 3 0, .ptr 1 0]]),
    some (.cells 26 [.dat 1 (numR o) .no]), some (.cells 26 [.dat 1 (numR x) (.cls 64)]), none, none, some .defd, none, some (.cells 26 [.dat 1 (numR s.l) .no]), some (.cells 189 [.fn (.func 133) [] [.ptr 5 0]])]
theorem b0S_bw (n : Nat) : BW n (some (.cells 28 b0S)) (some (.cells 28 b0S)) := .cells _ _ _ (.cons (.im _) (.cons (.im _) (.cons (.im _) (.cons (.dat _ _ _) .nil))))
theorem fn131_vw {n : Nat} (h : 4 < n) : VW n (.fn (.func 131) [] [.ptr 4 0, .ptr 3 0, .ptr 1 0]) (.fn (.func 131) [] [.ptr 4 0, .ptr 3 0, .ptr 1 0]) := .fn _ _ _ (fun i v h => by simp at h) (fun i v hv => by
  have hv := List.mem_of_getElem? hv
  simp only [List.mem_cons, List.not_mem_nil, or_false] at hv
  rcases hv with rfl | rfl | rfl
  · exact .ptr _ _ h
  · exact .ptr _ _ (by omega)
  · exact .ptr _ _ (by omega))
theorem fn133_vw {n : Nat} (h : 5 < n) : VW n (.fn (.func 133) [] [.ptr 5 0]) (.fn (.func 133) [] [.ptr 5 0]) := .fn _ _ _ (fun i v h => by simp at h) (fun i v hv => by
  have hv := List.mem_of_getElem? hv
  simp only [List.mem_cons, List.not_mem_nil, or_false] at hv
  subst hv
  exact .ptr _ _ h)
theorem fn152_vw {n a b : Nat} (ha : a < n) (hb : b < n) : VW n (.fn (.func 152) [] [.ptr a 0, .ptr b 0]) (.fn (.func 152) [] [.ptr a 0, .ptr b 0]) := .fn _ _ _ (fun i v h => by simp at h) (fun i v hv => by
  have hv := List.mem_of_getElem? hv
  simp only [List.mem_cons, List.not_mem_nil, or_false] at hv
  rcases hv with rfl | rfl
  · exact .ptr _ _ ha
  · exact .ptr _ _ hb)
theorem bw1 {n : Nat} {t : TypeId} {v : V} (h : VW n v v) : BW n (some (.cells t [v])) (some (.cells t [v])) := .cells _ _ _ (.cons h .nil)
theorem fnOk152 : fnOk Go.Proofs.Tryz.prog 152 := ⟨_, Go.Proofs.Tryz.func152, rfl, by decide⟩
theorem numR_snoc {x : List Int} {i : Nat} (hi : i < x.length) : numR (x.take i) ++ [[.int .u64 x[i]]] = numR (x.take (i + 1)) := by
  rw [List.take_succ_eq_append_getElem hi]
  simp only [numR, List.map_append, List.map_cons, List.map_nil]
theorem numR_at {x : List Int} {i : Nat} {v : List V} (h : (numR x)[i]? = some v) : ∃ hi : i < x.length, v = [.int .u64 x[i]] := by
  have hi : i < x.length := by have := (List.getElem?_eq_some_iff.1 h).1; simpa [numR] using this
  refine ⟨hi, ?_⟩
  simp [numR, hi] at h
  exact h.symm
theorem confR_free (s : SeqL) (o : List Int) (e : Int) : (V.tup [.agg (seqC s), .dat 1 (numR o) .no, .int .i64 e]).Free := .tup _ (by
  intro v hv
  simp only [List.mem_cons, List.not_mem_nil, or_false] at hv
  rcases hv with rfl | rfl | rfl
  · exact .agg _ (seqC_free' _)
  · exact .dat _ _ _ (by simp)
  · exact .im _)
set_option maxHeartbeats 4000000 in
theorem confirm_ct (G : Nat → Option (List V)) (s : SeqL) (up : Int) (many : Bool) (hl : s.l.length * 8 ≤ maxBytes) (H : Heap) :
    Call2 Go.Proofs.Tryz.prog G 96 [.agg (seqC s), .int .u64 up, .bool many] H fun r H' => H' = H ∧ r = .tup [.agg (seqC (confL s up many).1), .dat 1 (numR (confL s up many).2.1) .no, .int .i64 (confL s up many).2.2] := by
  refine Call2.free (fun x hx => by
    simp only [List.mem_cons, List.not_mem_nil, or_false] at hx
    rcases hx with rfl | rfl | rfl
    · exact .agg _ (seqC_free' _)
    · exact .im _
    · exact .im _) ?_ H
  have hmb : maxBytes = 140737488355328 := rfl
  have hmx : maxLen = 9223372036854775807 := rfl
  refine Call2.weakR ?_
  unfold confL
  obtain ⟨on, nx, off, l⟩ := s
  simp only at hl ⊢
  have hct := nuContains_ct G l (by omega) (IntKind.u64.wrap (up - off))
  generalize htop : IntKind.u64.wrap (up - off) = top at hct ⊢
  generalize (l.any fun x => decide (top = x)) = ctn at hct ⊢
  refine stCall2 Go.Proofs.Tryz.func96 rfl (by decide) ?_
  conv => whnf
  rw [htop]
  cases many
  · cases on
    · rw [if_pos ⟨rfl, .inl rfl⟩]
      conv => whnf
      refine ⟨_, ?_, confR_free _ [] 16, rfl⟩
      exact VW.tupL (.cons (.free (.agg _ (seqC_free' ⟨_, nx, off, l⟩))) (.cons (.nil _ _ _ _ (.inl rfl)) (.cons (.im _) .nil)))
    · conv => whnf
      by_cases h1 : up ≤ off
      · refine br_t (show bsel false true (decide (up ≤ off)) = true from decide_eq_true h1) ?_
        rw [if_pos ⟨rfl, .inr (.inl h1)⟩]
        conv => whnf
        refine ⟨_, ?_, confR_free _ [] 16, rfl⟩
        exact VW.tupL (.cons (.free (.agg _ (seqC_free' ⟨_, nx, off, l⟩))) (.cons (.nil _ _ _ _ (.inl rfl)) (.cons (.im _) .nil)))
      · refine br_f (show bsel false true (decide (up ≤ off)) = false from decide_eq_false h1) ?_
        conv => whnf
        refine Call2.mono (hct _) fun r0 H0 h => ?_
        obtain ⟨h1, h2⟩ := h
        rw [h1, h2]
        clear h1 h2 r0 H0
        conv => whnf
        cases ctn
        · rw [if_pos ⟨rfl, .inr (.inr rfl)⟩]
          conv => whnf
          refine ⟨_, ?_, confR_free _ [] 16, rfl⟩
          exact VW.tupL (.cons (.free (.agg _ (seqC_free' ⟨_, nx, off, l⟩))) (.cons (.nil _ _ _ _ (.inl rfl)) (.cons (.im _) .nil)))
        · rw [if_neg (by simp [h1])]
          conv => whnf
          have hcs1 : ∀ v ∈ ([.ptr 4 0, .ptr 3 0, .ptr 1 0] : List V), v.strip = v := by
            intro v hv
            simp only [List.mem_cons, List.not_mem_nil, or_false] at hv
            rcases hv with rfl | rfl | rfl <;> rfl
          have hcs2 : ∀ v ∈ ([.ptr 5 0] : List V), v.strip = v := by
            intro v hv
            obtain rfl := List.mem_singleton.1 hv
            rfl
          refine Call2.mono (those_ct G l 131 [.ptr 4 0, .ptr 3 0, .ptr 1 0] hcs1 _) fun r0 H0 h => ?_
          obtain ⟨h1, h2⟩ := h
          rw [h1, h2]
          clear h1 h2 r0 H0
          conv => whnf
          intro hw
          have hi := those1_ct G l (by omega) 8 9 131 [.ptr 4 0, .ptr 3 0, .ptr 1 0] hcs1 (isC false top false)
          have hi2 := those1_ct G l (by omega) 12 13 133 [.ptr 5 0] hcs2 (fun n => !isC false top false n)
          have hol : (l.filter (isC false top false)).length ≤ l.length := List.length_filter_le _ _
          have hxl : (l.filter (fun n => !isC false top false n)).length ≤ l.length := List.length_filter_le _ _
          generalize hoe : l.filter (isC false top false) = o at hi hol
          generalize hxe : l.filter (fun n => !isC false top false n) = x at hi2 hxl
          refine WPc.weak (σ0 := (headS 69 ([.bad, .bad, .bad, .ptr 0 0, .bad, .bad, .ptr 2 0, .bad, .bad, .bad, .bad, .ptr 5 0, .ptr 6 0, .ptr 7 0] ++ List.replicate 36 .bad ++ [.fn (.func 152) [] [.ptr 8 0, .ptr 9 0]] ++ List.replicate 18 .bad) (conH1 ⟨true, nx, off, l⟩ false false top []) [] none).st) ?_ (Nat.le_of_ble_eq_true rfl) ?_
          · exact weak2 hw rfl ⟨.ptr _ _ (Nat.le_of_ble_eq_true rfl), .ptr _ _ (Nat.le_of_ble_eq_true rfl), .ptr _ _ (Nat.le_of_ble_eq_true rfl), .ptr _ _ (Nat.le_of_ble_eq_true rfl), .ptr _ _ (Nat.le_of_ble_eq_true rfl), fn152_vw (Nat.le_of_ble_eq_true rfl) (Nat.le_of_ble_eq_true rfl), trivial⟩
              (.cons (.free (seqC_free' ⟨true, nx, off, l⟩)) (.cons (bw1 (.im _)) (.cons (b0S_bw _) (.cons (bw1 (.im _)) (.cons (bw1 (.im _)) (.cons (bw1 (fn131_vw (Nat.le_of_ble_eq_true rfl))) (.cons (.cells _ _ _ (.cons (.nil _ _ _ _ (.inl rfl)) .nil)) (.cons (bw1 (.dat _ _ _)) (.cons (bw1 (.dat _ _ _)) (.cons (bw1 (fn131_vw (Nat.le_of_ble_eq_true rfl))) (.nil _))))))))))) (fun id hid => by cases hid) rfl (fun id hid => by cases hid)
          clear hw
          refine wpc_rangeIter2 hi (Nat.le_of_ble_eq_true rfl) rfl rfl fnOk152 (fun i H' => H' = conH1 ⟨true, nx, off, l⟩ false false top (o.take i)) rfl ?_ ?_ ?_ ?_ ?_
          · rintro i H' rfl; rfl
          · rintro i H' rfl
            exact ⟨rfl, rfl, fun n hn => cis_ct G _ 4 3 1 _ _ _ rfl rfl rfl n⟩
          · intro v hv
            obtain ⟨y, _, rfl⟩ := List.mem_map.1 hv
            rfl
          · rintro i v H' hv rfl hlen hs'
            obtain ⟨hix, rfl⟩ := numR_at hv
            have hnl : (numR (o.take i)).length = i := by simp [numR]; omega
            conv => whnf
            refine ⟨rfl, rfl, ?_⟩
            conv => whnf
            refine ⟨.inr rfl, .inr rfl, ?_, ?_, ?_, ?_⟩
            · intro r hr
              obtain rfl := List.mem_singleton.1 hr
              rfl
            · show ((numR (o.take i)).length + 1) * 8 ≤ maxBytes
              rw [hnl]; omega
            · show (numR (o.take i)).length + 1 ≤ maxBytes
              rw [hnl]; omega
            have hap := numR_snoc hix
            conv => whnf
            refine ⟨conH1 ⟨true, nx, off, l⟩ false false top (o.take (i + 1)), [], by unfold conH1; rw [← hap]; rfl, rfl, ?_, rfl⟩
            intro id b hb
            have hb := List.mem_of_getElem? hb
            simp only [conH1, List.mem_cons, Option.some.injEq, List.not_mem_nil, or_false] at hb
            rcases hb with rfl | rfl | rfl | rfl | rfl | rfl | rfl | rfl | rfl | rfl
            · exact .inr (.free (seqC_free' ⟨true, nx, off, l⟩))
            · exact .inr (bw1 (.im _))
            · exact .inr (b0S_bw _)
            · exact .inr (bw1 (.im _))
            · exact .inr (bw1 (.im _))
            · exact .inr (bw1 (fn131_vw (Nat.le_of_ble_eq_true rfl)))
            · exact .inr (bw1 (.dat _ _ _))
            · exact .inr (bw1 (.dat _ _ _))
            · exact .inr (bw1 (.dat _ _ _))
            · exact .inr (bw1 (fn131_vw (Nat.le_of_ble_eq_true rfl)))
          rintro H' rfl
          have hoo : o.take (numR o).length = o := by simp [numR]
          rw [hoo]
          conv => whnf
          refine Call2.mono (those_ct G l 133 [.ptr 5 0] hcs2 _) fun r0 H0 h => ?_
          obtain ⟨h1, h2⟩ := h
          rw [h1, h2]
          clear h1 h2 r0 H0
          conv => whnf
          intro hw3
          refine WPc.weak (σ0 := (headS 69 ([.bad, .bad, .bad, .ptr 0 0, .bad, .bad, .ptr 2 0, .bad, .bad, .bad, .bad, .bad, .ptr 6 0, .ptr 7 0] ++ List.replicate 45 .bad ++ [.fn (.func 152) [] [.ptr 12 0, .ptr 13 0]] ++ List.replicate 9 .bad) (conH2 ⟨true, nx, off, l⟩ false false top o []) [10] none).st) ?_ (Nat.le_of_ble_eq_true rfl) ?_
          · exact weak2 hw3 rfl ⟨.ptr _ _ (Nat.le_of_ble_eq_true rfl), .ptr _ _ (Nat.le_of_ble_eq_true rfl), .ptr _ _ (Nat.le_of_ble_eq_true rfl), .ptr _ _ (Nat.le_of_ble_eq_true rfl), fn152_vw (Nat.le_of_ble_eq_true rfl) (Nat.le_of_ble_eq_true rfl), trivial⟩
              (.cons (.free (seqC_free' ⟨true, nx, off, l⟩)) (.cons (bw1 (.im _)) (.cons (b0S_bw _) (.cons (bw1 (.im _)) (.cons (bw1 (.im _)) (.cons (bw1 (fn131_vw (Nat.le_of_ble_eq_true rfl))) (.cons (.cells _ _ _ (.cons (.no _ _ _) .nil)) (.cons (.cells _ _ _ (.cons (.nil _ _ _ _ (.inl rfl)) .nil)) (.cons (.drop _) (.cons (.drop _) (.cons .defd (.cons (.drop _) (.cons (bw1 (.dat _ _ _)) (.cons (bw1 (fn133_vw (Nat.le_of_ble_eq_true rfl))) (.nil _))))))))))))))) (fun id hid => by cases hid with | head => exact Nat.le_of_ble_eq_true rfl | tail _ h => cases h) rfl (fun id hid => by cases hid)
          clear hw3
          refine wpc_rangeIter2 hi2 (Nat.le_of_ble_eq_true rfl) rfl rfl fnOk152 (fun i H' => H' = conH2 ⟨true, nx, off, l⟩ false false top o (x.take i)) rfl ?_ ?_ ?_ ?_ ?_
          · rintro i H' rfl; rfl
          · rintro i H' rfl
            exact ⟨rfl, rfl, fun n hn => cnot_ct G _ 5 131 [.ptr 4 0, .ptr 3 0, .ptr 1 0] (isC false top false) rfl hcs1 n (cis_ct G _ 4 3 1 _ _ _ rfl rfl rfl n)⟩
          · intro v hv
            obtain ⟨y, _, rfl⟩ := List.mem_map.1 hv
            rfl
          · rintro i v H' hv rfl hlen hs'
            obtain ⟨hix, rfl⟩ := numR_at hv
            have hnl : (numR (x.take i)).length = i := by simp [numR]; omega
            conv => whnf
            refine ⟨rfl, rfl, ?_⟩
            conv => whnf
            refine ⟨.inr rfl, .inr rfl, ?_, ?_, ?_, ?_⟩
            · intro r hr
              obtain rfl := List.mem_singleton.1 hr
              rfl
            · show ((numR (x.take i)).length + 1) * 8 ≤ maxBytes
              rw [hnl]; omega
            · show (numR (x.take i)).length + 1 ≤ maxBytes
              rw [hnl]; omega
            have hap := numR_snoc hix
            conv => whnf
            refine ⟨conH2 ⟨true, nx, off, l⟩ false false top o (x.take (i + 1)), [], by unfold conH2; rw [← hap]; rfl, rfl, ?_, rfl⟩
            intro id b hb
            have hb := List.mem_of_getElem? hb
            simp only [conH2, List.mem_cons, Option.some.injEq, List.not_mem_nil, or_false, reduceCtorEq, false_or] at hb
            rcases hb with rfl | rfl | rfl | rfl | rfl | rfl | rfl | rfl | rfl | rfl | rfl
            · exact .inr (.free (seqC_free' ⟨true, nx, off, l⟩))
            · exact .inr (bw1 (.im _))
            · exact .inr (b0S_bw _)
            · exact .inr (bw1 (.im _))
            · exact .inr (bw1 (.im _))
            · exact .inr (bw1 (fn131_vw (Nat.le_of_ble_eq_true rfl)))
            · exact .inr (bw1 (.dat _ _ _))
            · exact .inr (bw1 (.dat _ _ _))
            · exact .inr .defd
            · exact .inr (bw1 (.dat _ _ _))
            · exact .inr (bw1 (fn133_vw (Nat.le_of_ble_eq_true rfl)))
          rintro H' rfl
          have hxx : x.take (numR x).length = x := by simp [numR]
          rw [hxx]
          conv => whnf
          intro hw6
          refine wpc_drawG2 [2] [] [(1, 2)] (by rfl) (by decide) (by decide) hw6 ?_
          conv => whnf
          refine ⟨_, ?_, confR_free ⟨true, nx, off, x⟩ o 0, by subst hoe hxe; rfl⟩
          exact VW.tupL (.cons (VW.aggL (.cons (.im _) (.cons (.im _) (.cons (.im _) (.cons (.no _ _ _) .nil))))) (.cons (.dat _ _ _) (.cons (.im _) .nil)))
  · conv => whnf
    by_cases h0 : up = 0
    · rw [show decide (up = 0) = true from decide_eq_true h0, if_neg (by simp)]
      conv => whnf
      have hcs1 : ∀ v ∈ ([.ptr 4 0, .ptr 3 0, .ptr 1 0] : List V), v.strip = v := by
        intro v hv
        simp only [List.mem_cons, List.not_mem_nil, or_false] at hv
        rcases hv with rfl | rfl | rfl <;> rfl
      have hcs2 : ∀ v ∈ ([.ptr 5 0] : List V), v.strip = v := by
        intro v hv
        obtain rfl := List.mem_singleton.1 hv
        rfl
      refine Call2.mono (those_ct G l 131 [.ptr 4 0, .ptr 3 0, .ptr 1 0] hcs1 _) fun r0 H0 h => ?_
      obtain ⟨h1, h2⟩ := h
      rw [h1, h2]
      clear h1 h2 r0 H0
      conv => whnf
      intro hw
      have hi := those1_ct G l (by omega) 8 9 131 [.ptr 4 0, .ptr 3 0, .ptr 1 0] hcs1 (isC true top true)
      have hi2 := those1_ct G l (by omega) 12 13 133 [.ptr 5 0] hcs2 (fun n => !isC true top true n)
      have hol : (l.filter (isC true top true)).length ≤ l.length := List.length_filter_le _ _
      have hxl : (l.filter (fun n => !isC true top true n)).length ≤ l.length := List.length_filter_le _ _
      generalize hoe : l.filter (isC true top true) = o at hi hol
      generalize hxe : l.filter (fun n => !isC true top true n) = x at hi2 hxl
      refine WPc.weak (σ0 := (headS 69 ([.bad, .bad, .bad, .ptr 0 0, .bad, .bad, .ptr 2 0, .bad, .bad, .bad, .bad, .ptr 5 0, .ptr 6 0, .ptr 7 0] ++ List.replicate 36 .bad ++ [.fn (.func 152) [] [.ptr 8 0, .ptr 9 0]] ++ List.replicate 18 .bad) (conH1 ⟨on, nx, off, l⟩ true true top []) [] none).st) ?_ (Nat.le_of_ble_eq_true rfl) ?_
      · exact weak2 hw rfl ⟨.ptr _ _ (Nat.le_of_ble_eq_true rfl), .ptr _ _ (Nat.le_of_ble_eq_true rfl), .ptr _ _ (Nat.le_of_ble_eq_true rfl), .ptr _ _ (Nat.le_of_ble_eq_true rfl), .ptr _ _ (Nat.le_of_ble_eq_true rfl), fn152_vw (Nat.le_of_ble_eq_true rfl) (Nat.le_of_ble_eq_true rfl), trivial⟩
          (.cons (.free (seqC_free' ⟨on, nx, off, l⟩)) (.cons (bw1 (.im _)) (.cons (b0S_bw _) (.cons (bw1 (.im _)) (.cons (bw1 (.im _)) (.cons (bw1 (fn131_vw (Nat.le_of_ble_eq_true rfl))) (.cons (.cells _ _ _ (.cons (.nil _ _ _ _ (.inl rfl)) .nil)) (.cons (bw1 (.dat _ _ _)) (.cons (bw1 (.dat _ _ _)) (.cons (bw1 (fn131_vw (Nat.le_of_ble_eq_true rfl))) (.nil _))))))))))) (fun id hid => by cases hid) rfl (fun id hid => by cases hid)
      clear hw
      refine wpc_rangeIter2 hi (Nat.le_of_ble_eq_true rfl) rfl rfl fnOk152 (fun i H' => H' = conH1 ⟨on, nx, off, l⟩ true true top (o.take i)) rfl ?_ ?_ ?_ ?_ ?_
      · rintro i H' rfl; rfl
      · rintro i H' rfl
        exact ⟨rfl, rfl, fun n hn => cis_ct G _ 4 3 1 _ _ _ rfl rfl rfl n⟩
      · intro v hv
        obtain ⟨y, _, rfl⟩ := List.mem_map.1 hv
        rfl
      · rintro i v H' hv rfl hlen hs'
        obtain ⟨hix, rfl⟩ := numR_at hv
        have hnl : (numR (o.take i)).length = i := by simp [numR]; omega
        conv => whnf
        refine ⟨rfl, rfl, ?_⟩
        conv => whnf
        refine ⟨.inr rfl, .inr rfl, ?_, ?_, ?_, ?_⟩
        · intro r hr
          obtain rfl := List.mem_singleton.1 hr
          rfl
        · show ((numR (o.take i)).length + 1) * 8 ≤ maxBytes
          rw [hnl]; omega
        · show (numR (o.take i)).length + 1 ≤ maxBytes
          rw [hnl]; omega
        have hap := numR_snoc hix
        conv => whnf
        refine ⟨conH1 ⟨on, nx, off, l⟩ true true top (o.take (i + 1)), [], by unfold conH1; rw [← hap]; rfl, rfl, ?_, rfl⟩
        intro id b hb
        have hb := List.mem_of_getElem? hb
        simp only [conH1, List.mem_cons, Option.some.injEq, List.not_mem_nil, or_false] at hb
        rcases hb with rfl | rfl | rfl | rfl | rfl | rfl | rfl | rfl | rfl | rfl
        · exact .inr (.free (seqC_free' ⟨on, nx, off, l⟩))
        · exact .inr (bw1 (.im _))
        · exact .inr (b0S_bw _)
        · exact .inr (bw1 (.im _))
        · exact .inr (bw1 (.im _))
        · exact .inr (bw1 (fn131_vw (Nat.le_of_ble_eq_true rfl)))
        · exact .inr (bw1 (.dat _ _ _))
        · exact .inr (bw1 (.dat _ _ _))
        · exact .inr (bw1 (.dat _ _ _))
        · exact .inr (bw1 (fn131_vw (Nat.le_of_ble_eq_true rfl)))
      rintro H' rfl
      have hoo : o.take (numR o).length = o := by simp [numR]
      rw [hoo]
      conv => whnf
      refine Call2.mono (those_ct G l 133 [.ptr 5 0] hcs2 _) fun r0 H0 h => ?_
      obtain ⟨h1, h2⟩ := h
      rw [h1, h2]
      clear h1 h2 r0 H0
      conv => whnf
      intro hw3
      refine WPc.weak (σ0 := (headS 69 ([.bad, .bad, .bad, .ptr 0 0, .bad, .bad, .ptr 2 0, .bad, .bad, .bad, .bad, .bad, .ptr 6 0, .ptr 7 0] ++ List.replicate 45 .bad ++ [.fn (.func 152) [] [.ptr 12 0, .ptr 13 0]] ++ List.replicate 9 .bad) (conH2 ⟨on, nx, off, l⟩ true true top o []) [10] none).st) ?_ (Nat.le_of_ble_eq_true rfl) ?_
      · exact weak2 hw3 rfl ⟨.ptr _ _ (Nat.le_of_ble_eq_true rfl), .ptr _ _ (Nat.le_of_ble_eq_true rfl), .ptr _ _ (Nat.le_of_ble_eq_true rfl), .ptr _ _ (Nat.le_of_ble_eq_true rfl), fn152_vw (Nat.le_of_ble_eq_true rfl) (Nat.le_of_ble_eq_true rfl), trivial⟩
          (.cons (.free (seqC_free' ⟨on, nx, off, l⟩)) (.cons (bw1 (.im _)) (.cons (b0S_bw _) (.cons (bw1 (.im _)) (.cons (bw1 (.im _)) (.cons (bw1 (fn131_vw (Nat.le_of_ble_eq_true rfl))) (.cons (.cells _ _ _ (.cons (.no _ _ _) .nil)) (.cons (.cells _ _ _ (.cons (.nil _ _ _ _ (.inl rfl)) .nil)) (.cons (.drop _) (.cons (.drop _) (.cons .defd (.cons (.drop _) (.cons (bw1 (.dat _ _ _)) (.cons (bw1 (fn133_vw (Nat.le_of_ble_eq_true rfl))) (.nil _))))))))))))))) (fun id hid => by cases hid with | head => exact Nat.le_of_ble_eq_true rfl | tail _ h => cases h) rfl (fun id hid => by cases hid)
      clear hw3
      refine wpc_rangeIter2 hi2 (Nat.le_of_ble_eq_true rfl) rfl rfl fnOk152 (fun i H' => H' = conH2 ⟨on, nx, off, l⟩ true true top o (x.take i)) rfl ?_ ?_ ?_ ?_ ?_
      · rintro i H' rfl; rfl
      · rintro i H' rfl
        exact ⟨rfl, rfl, fun n hn => cnot_ct G _ 5 131 [.ptr 4 0, .ptr 3 0, .ptr 1 0] (isC true top true) rfl hcs1 n (cis_ct G _ 4 3 1 _ _ _ rfl rfl rfl n)⟩
      · intro v hv
        obtain ⟨y, _, rfl⟩ := List.mem_map.1 hv
        rfl
      · rintro i v H' hv rfl hlen hs'
        obtain ⟨hix, rfl⟩ := numR_at hv
        have hnl : (numR (x.take i)).length = i := by simp [numR]; omega
        conv => whnf
        refine ⟨rfl, rfl, ?_⟩
        conv => whnf
        refine ⟨.inr rfl, .inr rfl, ?_, ?_, ?_, ?_⟩
        · intro r hr
          obtain rfl := List.mem_singleton.1 hr
          rfl
        · show ((numR (x.take i)).length + 1) * 8 ≤ maxBytes
          rw [hnl]; omega
        · show (numR (x.take i)).length + 1 ≤ maxBytes
          rw [hnl]; omega
        have hap := numR_snoc hix
        conv => whnf
        refine ⟨conH2 ⟨on, nx, off, l⟩ true true top o (x.take (i + 1)), [], by unfold conH2; rw [← hap]; rfl, rfl, ?_, rfl⟩
        intro id b hb
        have hb := List.mem_of_getElem? hb
        simp only [conH2, List.mem_cons, Option.some.injEq, List.not_mem_nil, or_false, reduceCtorEq, false_or] at hb
        rcases hb with rfl | rfl | rfl | rfl | rfl | rfl | rfl | rfl | rfl | rfl | rfl
        · exact .inr (.free (seqC_free' ⟨on, nx, off, l⟩))
        · exact .inr (bw1 (.im _))
        · exact .inr (b0S_bw _)
        · exact .inr (bw1 (.im _))
        · exact .inr (bw1 (.im _))
        · exact .inr (bw1 (fn131_vw (Nat.le_of_ble_eq_true rfl)))
        · exact .inr (bw1 (.dat _ _ _))
        · exact .inr (bw1 (.dat _ _ _))
        · exact .inr .defd
        · exact .inr (bw1 (.dat _ _ _))
        · exact .inr (bw1 (fn133_vw (Nat.le_of_ble_eq_true rfl)))
      rintro H' rfl
      have hxx : x.take (numR x).length = x := by simp [numR]
      rw [hxx]
      conv => whnf
      intro hw6
      refine wpc_drawG2 [2] [] [(1, 2)] (by rfl) (by decide) (by decide) hw6 ?_
      conv => whnf
      refine ⟨_, ?_, confR_free ⟨on, nx, off, x⟩ o 0, by subst hoe hxe; rfl⟩
      exact VW.tupL (.cons (VW.aggL (.cons (.im _) (.cons (.im _) (.cons (.im _) (.cons (.no _ _ _) .nil))))) (.cons (.dat _ _ _) (.cons (.im _) .nil)))
    · rw [show decide (up = 0) = false from decide_eq_false h0]
      cases on
      · rw [if_pos ⟨rfl, .inl rfl⟩]
        conv => whnf
        refine ⟨_, ?_, confR_free _ [] 16, rfl⟩
        exact VW.tupL (.cons (.free (.agg _ (seqC_free' ⟨_, nx, off, l⟩))) (.cons (.nil _ _ _ _ (.inl rfl)) (.cons (.im _) .nil)))
      · conv => whnf
        by_cases h1 : up ≤ off
        · refine br_t (show bsel false true (decide (up ≤ off)) = true from decide_eq_true h1) ?_
          rw [if_pos ⟨rfl, .inr (.inl h1)⟩]
          conv => whnf
          refine ⟨_, ?_, confR_free _ [] 16, rfl⟩
          exact VW.tupL (.cons (.free (.agg _ (seqC_free' ⟨_, nx, off, l⟩))) (.cons (.nil _ _ _ _ (.inl rfl)) (.cons (.im _) .nil)))
        · refine br_f (show bsel false true (decide (up ≤ off)) = false from decide_eq_false h1) ?_
          conv => whnf
          refine Call2.mono (hct _) fun r0 H0 h => ?_
          obtain ⟨h1, h2⟩ := h
          rw [h1, h2]
          clear h1 h2 r0 H0
          conv => whnf
          cases ctn
          · rw [if_pos ⟨rfl, .inr (.inr rfl)⟩]
            conv => whnf
            refine ⟨_, ?_, confR_free _ [] 16, rfl⟩
            exact VW.tupL (.cons (.free (.agg _ (seqC_free' ⟨_, nx, off, l⟩))) (.cons (.nil _ _ _ _ (.inl rfl)) (.cons (.im _) .nil)))
          · rw [if_neg (by simp [h1])]
            conv => whnf
            have hcs1 : ∀ v ∈ ([.ptr 4 0, .ptr 3 0, .ptr 1 0] : List V), v.strip = v := by
              intro v hv
              simp only [List.mem_cons, List.not_mem_nil, or_false] at hv
              rcases hv with rfl | rfl | rfl <;> rfl
            have hcs2 : ∀ v ∈ ([.ptr 5 0] : List V), v.strip = v := by
              intro v hv
              obtain rfl := List.mem_singleton.1 hv
              rfl
            refine Call2.mono (those_ct G l 131 [.ptr 4 0, .ptr 3 0, .ptr 1 0] hcs1 _) fun r0 H0 h => ?_
            obtain ⟨h1, h2⟩ := h
            rw [h1, h2]
            clear h1 h2 r0 H0
            conv => whnf
            intro hw
            have hi := those1_ct G l (by omega) 8 9 131 [.ptr 4 0, .ptr 3 0, .ptr 1 0] hcs1 (isC false top true)
            have hi2 := those1_ct G l (by omega) 12 13 133 [.ptr 5 0] hcs2 (fun n => !isC false top true n)
            have hol : (l.filter (isC false top true)).length ≤ l.length := List.length_filter_le _ _
            have hxl : (l.filter (fun n => !isC false top true n)).length ≤ l.length := List.length_filter_le _ _
            generalize hoe : l.filter (isC false top true) = o at hi hol
            generalize hxe : l.filter (fun n => !isC false top true n) = x at hi2 hxl
            refine WPc.weak (σ0 := (headS 69 ([.bad, .bad, .bad, .ptr 0 0, .bad, .bad, .ptr 2 0, .bad, .bad, .bad, .bad, .ptr 5 0, .ptr 6 0, .ptr 7 0] ++ List.replicate 36 .bad ++ [.fn (.func 152) [] [.ptr 8 0, .ptr 9 0]] ++ List.replicate 18 .bad) (conH1 ⟨true, nx, off, l⟩ false true top []) [] none).st) ?_ (Nat.le_of_ble_eq_true rfl) ?_
            · exact weak2 hw rfl ⟨.ptr _ _ (Nat.le_of_ble_eq_true rfl), .ptr _ _ (Nat.le_of_ble_eq_true rfl), .ptr _ _ (Nat.le_of_ble_eq_true rfl), .ptr _ _ (Nat.le_of_ble_eq_true rfl), .ptr _ _ (Nat.le_of_ble_eq_true rfl), fn152_vw (Nat.le_of_ble_eq_true rfl) (Nat.le_of_ble_eq_true rfl), trivial⟩
                (.cons (.free (seqC_free' ⟨true, nx, off, l⟩)) (.cons (bw1 (.im _)) (.cons (b0S_bw _) (.cons (bw1 (.im _)) (.cons (bw1 (.im _)) (.cons (bw1 (fn131_vw (Nat.le_of_ble_eq_true rfl))) (.cons (.cells _ _ _ (.cons (.nil _ _ _ _ (.inl rfl)) .nil)) (.cons (bw1 (.dat _ _ _)) (.cons (bw1 (.dat _ _ _)) (.cons (bw1 (fn131_vw (Nat.le_of_ble_eq_true rfl))) (.nil _))))))))))) (fun id hid => by cases hid) rfl (fun id hid => by cases hid)
            clear hw
            refine wpc_rangeIter2 hi (Nat.le_of_ble_eq_true rfl) rfl rfl fnOk152 (fun i H' => H' = conH1 ⟨true, nx, off, l⟩ false true top (o.take i)) rfl ?_ ?_ ?_ ?_ ?_
            · rintro i H' rfl; rfl
            · rintro i H' rfl
              exact ⟨rfl, rfl, fun n hn => cis_ct G _ 4 3 1 _ _ _ rfl rfl rfl n⟩
            · intro v hv
              obtain ⟨y, _, rfl⟩ := List.mem_map.1 hv
              rfl
            · rintro i v H' hv rfl hlen hs'
              obtain ⟨hix, rfl⟩ := numR_at hv
              have hnl : (numR (o.take i)).length = i := by simp [numR]; omega
              conv => whnf
              refine ⟨rfl, rfl, ?_⟩
              conv => whnf
              refine ⟨.inr rfl, .inr rfl, ?_, ?_, ?_, ?_⟩
              · intro r hr
                obtain rfl := List.mem_singleton.1 hr
                rfl
              · show ((numR (o.take i)).length + 1) * 8 ≤ maxBytes
                rw [hnl]; omega
              · show (numR (o.take i)).length + 1 ≤ maxBytes
                rw [hnl]; omega
              have hap := numR_snoc hix
              conv => whnf
              refine ⟨conH1 ⟨true, nx, off, l⟩ false true top (o.take (i + 1)), [], by unfold conH1; rw [← hap]; rfl, rfl, ?_, rfl⟩
              intro id b hb
              have hb := List.mem_of_getElem? hb
              simp only [conH1, List.mem_cons, Option.some.injEq, List.not_mem_nil, or_false] at hb
              rcases hb with rfl | rfl | rfl | rfl | rfl | rfl | rfl | rfl | rfl | rfl
              · exact .inr (.free (seqC_free' ⟨true, nx, off, l⟩))
              · exact .inr (bw1 (.im _))
              · exact .inr (b0S_bw _)
              · exact .inr (bw1 (.im _))
              · exact .inr (bw1 (.im _))
              · exact .inr (bw1 (fn131_vw (Nat.le_of_ble_eq_true rfl)))
              · exact .inr (bw1 (.dat _ _ _))
              · exact .inr (bw1 (.dat _ _ _))
              · exact .inr (bw1 (.dat _ _ _))
              · exact .inr (bw1 (fn131_vw (Nat.le_of_ble_eq_true rfl)))
            rintro H' rfl
            have hoo : o.take (numR o).length = o := by simp [numR]
            rw [hoo]
            conv => whnf
            refine Call2.mono (those_ct G l 133 [.ptr 5 0] hcs2 _) fun r0 H0 h => ?_
            obtain ⟨h1, h2⟩ := h
            rw [h1, h2]
            clear h1 h2 r0 H0
            conv => whnf
            intro hw3
            refine WPc.weak (σ0 := (headS 69 ([.bad, .bad, .bad, .ptr 0 0, .bad, .bad, .ptr 2 0, .bad, .bad, .bad, .bad, .bad, .ptr 6 0, .ptr 7 0] ++ List.replicate 45 .bad ++ [.fn (.func 152) [] [.ptr 12 0, .ptr 13 0]] ++ List.replicate 9 .bad) (conH2 ⟨true, nx, off, l⟩ false true top o []) [10] none).st) ?_ (Nat.le_of_ble_eq_true rfl) ?_
            · exact weak2 hw3 rfl ⟨.ptr _ _ (Nat.le_of_ble_eq_true rfl), .ptr _ _ (Nat.le_of_ble_eq_true rfl), .ptr _ _ (Nat.le_of_ble_eq_true rfl), .ptr _ _ (Nat.le_of_ble_eq_true rfl), fn152_vw (Nat.le_of_ble_eq_true rfl) (Nat.le_of_ble_eq_true rfl), trivial⟩
                (.cons (.free (seqC_free' ⟨true, nx, off, l⟩)) (.cons (bw1 (.im _)) (.cons (b0S_bw _) (.cons (bw1 (.im _)) (.cons (bw1 (.im _)) (.cons (bw1 (fn131_vw (Nat.le_of_ble_eq_true rfl))) (.cons (.cells _ _ _ (.cons (.no _ _ _) .nil)) (.cons (.cells _ _ _ (.cons (.nil _ _ _ _ (.inl rfl)) .nil)) (.cons (.drop _) (.cons (.drop _) (.cons .defd (.cons (.drop _) (.cons (bw1 (.dat _ _ _)) (.cons (bw1 (fn133_vw (Nat.le_of_ble_eq_true rfl))) (.nil _))))))))))))))) (fun id hid => by cases hid with | head => exact Nat.le_of_ble_eq_true rfl | tail _ h => cases h) rfl (fun id hid => by cases hid)
            clear hw3
            refine wpc_rangeIter2 hi2 (Nat.le_of_ble_eq_true rfl) rfl rfl fnOk152 (fun i H' => H' = conH2 ⟨true, nx, off, l⟩ false true top o (x.take i)) rfl ?_ ?_ ?_ ?_ ?_
            · rintro i H' rfl; rfl
            · rintro i H' rfl
              exact ⟨rfl, rfl, fun n hn => cnot_ct G _ 5 131 [.ptr 4 0, .ptr 3 0, .ptr 1 0] (isC false top true) rfl hcs1 n (cis_ct G _ 4 3 1 _ _ _ rfl rfl rfl n)⟩
            · intro v hv
              obtain ⟨y, _, rfl⟩ := List.mem_map.1 hv
              rfl
            · rintro i v H' hv rfl hlen hs'
              obtain ⟨hix, rfl⟩ := numR_at hv
              have hnl : (numR (x.take i)).length = i := by simp [numR]; omega
              conv => whnf
              refine ⟨rfl, rfl, ?_⟩
              conv => whnf
              refine ⟨.inr rfl, .inr rfl, ?_, ?_, ?_, ?_⟩
              · intro r hr
                obtain rfl := List.mem_singleton.1 hr
                rfl
              · show ((numR (x.take i)).length + 1) * 8 ≤ maxBytes
                rw [hnl]; omega
              · show (numR (x.take i)).length + 1 ≤ maxBytes
                rw [hnl]; omega
              have hap := numR_snoc hix
              conv => whnf
              refine ⟨conH2 ⟨true, nx, off, l⟩ false true top o (x.take (i + 1)), [], by unfold conH2; rw [← hap]; rfl, rfl, ?_, rfl⟩
              intro id b hb
              have hb := List.mem_of_getElem? hb
              simp only [conH2, List.mem_cons, Option.some.injEq, List.not_mem_nil, or_false, reduceCtorEq, false_or] at hb
              rcases hb with rfl | rfl | rfl | rfl | rfl | rfl | rfl | rfl | rfl | rfl | rfl
              · exact .inr (.free (seqC_free' ⟨true, nx, off, l⟩))
              · exact .inr (bw1 (.im _))
              · exact .inr (b0S_bw _)
              · exact .inr (bw1 (.im _))
              · exact .inr (bw1 (.im _))
              · exact .inr (bw1 (fn131_vw (Nat.le_of_ble_eq_true rfl)))
              · exact .inr (bw1 (.dat _ _ _))
              · exact .inr (bw1 (.dat _ _ _))
              · exact .inr .defd
              · exact .inr (bw1 (.dat _ _ _))
              · exact .inr (bw1 (fn133_vw (Nat.le_of_ble_eq_true rfl)))
            rintro H' rfl
            have hxx : x.take (numR x).length = x := by simp [numR]
            rw [hxx]
            conv => whnf
            intro hw6
            refine wpc_drawG2 [2] [] [(1, 2)] (by rfl) (by decide) (by decide) hw6 ?_
            conv => whnf
            refine ⟨_, ?_, confR_free ⟨true, nx, off, x⟩ o 0, by subst hoe hxe; rfl⟩
            exact VW.tupL (.cons (VW.aggL (.cons (.im _) (.cons (.im _) (.cons (.im _) (.cons (.no _ _ _) .nil))))) (.cons (.dat _ _ _) (.cons (.im _) .nil)))
end Go.Abs.Sig

/-! LD2 -/
namespace Go.Abs.Sig
open Go.RowKit Go.Abs
set_option linter.unusedSimpArgs false
set_option linter.unusedVariables false
set_option maxRecDepth 8000
attribute [local irreducible] StCall StYield WPc Weak IterOf Lp2

/-- The greatest of the first j. -/
def mxTo (l : List Int) (j : Nat) : Int := ((l.take j).tail).foldl max (l.headD 0)
theorem mxTo_succ (l : List Int) (j : Nat) (h0 : 1 ≤ j) (hj : j < l.length) : mxTo l (j + 1) = max (mxTo l j) l[j] := by
  unfold mxTo
  rw [List.take_succ_eq_append_getElem hj]
  have : (l.take j ++ [l[j]]).tail = (l.take j).tail ++ [l[j]] := by
    cases hl : l.take j with
    | nil => have h3 := congrArg List.length hl; rw [List.length_take, List.length_nil] at h3; omega
    | cons a r => simp
  rw [this, List.foldl_append]
  rfl
def mxL (l : List Int) : Int := mxTo l l.length
def mxS (l : List Int) (j : Nat) : S2 := headS 25 ([.dat 1 (numR l) .no, .bad, .bad, .int .u64 (mxTo l j), .int .i64 (j : Int)] ++ List.replicate 20 .bad) [] [] none
theorem max_ct (G : Nat → Option (List V)) (l : List Int) (hl : l.length ≤ maxLen) (hne : l ≠ []) (H : Heap) : Call2 Go.Proofs.Tryz.prog G 134 [.dat 1 (numR l) .no] H fun r H' => H' = H ∧ r = .int .u64 (mxL l) := by
  refine Call2.free (fun y hy => by
    simp only [List.mem_cons, List.not_mem_nil, or_false] at hy
    rcases hy with rfl
    exact .dat _ _ _ (by simp)) ?_ H
  have hl' : l.length ≤ 9223372036854775807 := hl
  have hvl : (numR l).length = l.length := by simp [numR]
  have hpos : 0 < l.length := List.length_pos_iff.2 hne
  have hg0 : (numR l)[Int.toNat 0]? = some [.int .u64 l[0]] := rowGet _ l 0 hpos
  have hm1 : mxTo l 1 = l[0] := by
    cases l with
    | nil => exact absurd rfl hne
    | cons a r => rfl
  refine stCall2 Go.Proofs.Tryz.func134 rfl (by decide) ?_
  conv => whnf
  rw [show decide (((numR l).length : Int) < 1) = false from decide_eq_false (by rw [hvl]; omega)]
  conv => whnf
  rw [hg0]
  conv => whnf
  intro hw
  refine wpc_loop2 (fun n1 s1 => ∃ j : Nat, 1 ≤ j ∧ j ≤ l.length ∧ n1 = l.length - j ∧ s1 = mxS l j) (l.length - 1) (mxS l 1) ?_ ⟨1, by omega, by omega, rfl, rfl⟩ ?_ ?_
  · exact weak2 hw rfl ⟨.dat _ _ _, .int hm1.symm, .im _, trivial⟩ (.nil _) (fun id hid => by cases hid) rfl (fun id hid => by cases hid)
  · rintro n1 s1 ⟨j, _, _, _, rfl⟩
    exact ⟨⟨Nat.le_refl 25, fun x hx => by cases hx⟩, rfl, Nat.le_refl _, rfl⟩
  rintro n1 s1 ⟨j, h1, hj, rfl, rfl⟩
  by_cases hjl : j < l.length
  · have hd0 : (true && true && decide ((0 : Int) ≤ (j : Int))) = true := by simp
    have hwj : IntKind.i64.wrap ((j : Int) + 1) = ((j + 1 : Nat) : Int) := by rw [wrap_i64 (by omega) (by omega)]; rfl
    have hg1 : (numR l)[Int.toNat (j : Int)]? = some [.int .u64 l[j]] := rowGet _ l j hjl
    have hms := mxTo_succ l j h1 hjl
    conv => whnf
    refine br_t (decide_eq_true (by rw [hvl]; omega)) ?_
    conv => whnf
    refine grd_intro hd0 (optK_intro hg1 ?_)
    have hmx : (if l[j] > mxTo l j then l[j] else mxTo l j) = mxTo l (j + 1) := by
      rw [hms]
      split <;> omega
    conv => whnf
    intro hw2
    refine ⟨l.length - (j + 1), mxS l (j + 1), by omega, ?_, j + 1, by omega, by omega, rfl, rfl⟩
    exact weak2 hw2 rfl ⟨.dat _ _ _, .int hmx, .int hwj, trivial⟩ (.nil _) (fun id hid => by cases hid) rfl (fun id hid => by cases hid)
  · conv => whnf
    refine br_f (decide_eq_false (by rw [hvl]; omega)) ?_
    conv => whnf
    refine ⟨.im _, ?_⟩
    rw [show j = l.length by omega]
    rfl
end Go.Abs.Sig

/-! LD3 -/
namespace Go.Abs.Sig
open Go.RowKit Go.Abs
set_option linter.unusedSimpArgs false
set_option linter.unusedVariables false
set_option maxRecDepth 8000
attribute [local irreducible] StCall StYield WPc Weak IterOf Lp2

theorem answer1_ct (G : Nat → Option (List V)) (H : Heap) (k : Nat) (m : Int) (hk : H[k]? = some (some (.cells 22 [.int .u64 m]))) (x : Int) :
    Call2 Go.Proofs.Tryz.prog G 136 ([.int .u64 x] ++ [.ptr k 0]) H fun v H' => H' = H ∧ v = .bool (decide (x ≤ m)) := by
  refine stCall2 Go.Proofs.Tryz.func136 rfl (by decide) ?_
  conv => whnf
  rw [hk]
  conv => whnf
  exact ⟨rfl, rfl⟩
def ansL (l : List Int) (s : SeqL) : Int × Bool × Bool :=
  if l = [] then (0, false, false) else if l.length = 1 then (mxL l, true, false) else match s.l.any (fun x => decide (x ≤ mxL l)) with
    | true => (0, false, false)
    | false => (mxL l, true, true)
theorem ans_free (x : Int × Bool × Bool) : (V.tup [.int .u64 x.1, .bool x.2.1, .bool x.2.2]).Free := .tup _ (by
  intro v hv
  simp only [List.mem_cons, List.not_mem_nil, or_false] at hv
  rcases hv with rfl | rfl | rfl
  · exact .im _
  · exact .im _
  · exact .im _)
theorem answer_ct (G : Nat → Option (List V)) (l : List Int) (s : SeqL) (hl : l.length ≤ maxLen) (hsl : s.l.length ≤ maxLen) (H : Heap) :
    Call2 Go.Proofs.Tryz.prog G 98 [.dat 1 (numR l) .no, .agg (seqC s)] H fun r H' => H' = H ∧ r = .tup [.int .u64 (ansL l s).1, .bool (ansL l s).2.1, .bool (ansL l s).2.2] := by
  refine Call2.free (fun y hy => by
    simp only [List.mem_cons, List.not_mem_nil, or_false] at hy
    rcases hy with rfl | rfl
    · exact .dat _ _ _ (by simp)
    · exact .agg _ (seqC_free' _)) ?_ H
  have hvl : (numR l).length = l.length := by simp [numR]
  unfold ansL
  by_cases h0 : l = []
  · rw [if_pos h0]
    subst h0
    refine stCall2 Go.Proofs.Tryz.func98 rfl (by decide) ?_
    conv => whnf
    exact ⟨ans_free (0, false, false), rfl⟩
  rw [if_neg h0]
  have hpos : 0 < l.length := List.length_pos_iff.2 h0
  have hm := max_ct G l hl h0
  generalize mxL l = m at hm ⊢
  have hc := containsF_ct G s.l hsl 136 [.ptr 1 0] (fun x => decide (x ≤ m)) [some (.cells 28 (seqC s)), some (.cells 22 [.int .u64 m])] (ptr_sc (Nat.le_of_ble_eq_true rfl)) (fun x _ => answer1_ct G _ 1 m rfl x)
  generalize (s.l.any fun x => decide (x ≤ m)) = b at hc ⊢
  refine stCall2 Go.Proofs.Tryz.func98 rfl (by decide) ?_
  conv => whnf
  rw [show decide (((numR l).length : Int) = 0) = false from decide_eq_false (by rw [hvl]; omega)]
  conv => whnf
  refine Call2.mono (hm _) fun r0 H0 h => ?_
  obtain ⟨h1, h2⟩ := h
  rw [h1, h2]
  clear h1 h2 r0 H0
  conv => whnf
  refine Call2.mono (hc) fun r0 H0 h => ?_
  obtain ⟨h1, h2⟩ := h
  rw [h1, h2]
  clear h1 h2 r0 H0
  conv => whnf
  rw [hvl]
  by_cases h1 : l.length = 1
  · rw [if_pos h1]
    refine br_t (show decide (((l.length : Nat) : Int) = 1) = true from decide_eq_true (by omega)) ?_
    conv => whnf
    exact ⟨ans_free (m, true, false), rfl⟩
  · rw [if_neg h1]
    refine br_f (show decide (((l.length : Nat) : Int) = 1) = false from decide_eq_false (by omega)) ?_
    cases b
    · conv => whnf
      exact ⟨ans_free (m, true, true), rfl⟩
    · conv => whnf
      exact ⟨ans_free (0, false, false), rfl⟩
end Go.Abs.Sig

/-! LQ4 -/
namespace Go.Abs.Sig
open Go.RowKit Go.Abs
set_option linter.unusedSimpArgs false
set_option linter.unusedVariables false
set_option maxRecDepth 8000
attribute [local irreducible] StCall StYield WPc Weak IterOf Lp2

/-- One confirmation: its number, and are there many? -/
def oneC (c : Cm) (n : Int) (b : Bool) : Cm := withC (withC c 0 (n, [])) 1 (if b then 1 else 0, [])
theorem withOf_length (m : Int × Int × List Val') (i : Int) (v : Val') : (withOf m i v).2.2.length = m.2.2.length := by
  unfold withOf
  split <;> simp
theorem wone_ct (G : Nat → Option (List V)) (H : Heap) (k p : Nat) (l : LeaseL) (c : Cm) (e : Int) (hb : c.1.2.2.length * 24 ≤ maxBytes)
    (hp : H[p]? = some (some (.cells 70 [.ptr k 0]))) (hkp : k ≠ p) (hk : H[k]? = some (wkB l c (.dat 0 [] .tight) e)) (n : Int) (b : Bool) :
    Call2 Go.Proofs.Tryz.prog G 97 ([.int .u64 n, .bool b] ++ [.ptr p 0]) H fun r H' => H' = H.set k (wkB l (oneC c n b) (.dat 8 [ccells (oneC c n b)] .no) e) ∧ r = .tup [] := by
  have hkl := lt_of_get hk
  have hpl := lt_of_get hp
  have hb2 : (withC c 0 (n, [])).1.2.2.length * 24 ≤ maxBytes := by unfold withC; rw [withOf_length]; exact hb
  refine Call2.cutW ?_
  refine stCall2 Go.Proofs.Tryz.func97 rfl (by decide) ?_
  conv => whnf
  have hw1 := fun (X : Heap) => wwith_ct G (H ++ X) k l c _ e (fun n => .dat _ _ _) (get_app hk) 0 (n, []) hb
  have hkl2 : ∀ L : Heap, k < (H ++ L).length := fun L => by rw [List.length_append]; omega
  cases b
  · iterate 3 (conv => whnf; try simp only [List.append_assoc, List.cons_append, List.nil_append, List.length_append, List.length_cons, List.length_nil, Nat.zero_add, Nat.add_assoc, Nat.reduceAdd, ga0, ga1, ga2, ga3, ga4, ga5, sa0, sa1, sa2, sa3, sa4, sa5, S2.setH_H, List.all_cons, List.all_nil, isDefd, nodupB, List.any_nil, Bool.and_true, Bool.not_false, List.foldl_cons, List.foldl_nil])
    rw [get_app hp]
    conv => whnf
    refine Call2.mono (hw1 _) fun r0 H0 h => ?_
    obtain ⟨h1, h2⟩ := h
    rw [h1, h2]
    clear h1 h2 r0 H0
    conv => whnf
    rw [List.getElem?_set_ne hkp, get_app hp]
    conv => whnf
    rw [get_set_app0 hkl]
    iterate 2 (conv => whnf; try simp only [List.append_assoc, List.cons_append, List.nil_append, List.length_append, List.length_cons, List.length_nil, Nat.zero_add, Nat.add_assoc, Nat.reduceAdd, ga0, ga1, ga2, ga3, ga4, ga5, sa0, sa1, sa2, sa3, sa4, sa5, S2.setH_H, List.all_cons, List.all_nil, isDefd, nodupB, List.any_nil, Bool.and_true, Bool.not_false, List.foldl_cons, List.foldl_nil])
    refine Call2.mono (wwith_ct G _ k l (withC c 0 (n, [])) _ e (fun n => .dat _ _ _) (List.getElem?_set_self (hkl2 _)) 1 (if false then 1 else 0, []) hb2) fun r0 H0 h => ?_
    obtain ⟨h1, h2⟩ := h
    rw [h1, h2, List.set_set]
    clear h1 h2 r0 H0
    conv => whnf
    rw [List.getElem?_set_ne hkp, get_app hp]
    conv => whnf
    refine Call2.mono (wtell_ct G _ k l (oneC c n false) e (List.getElem?_set_self (hkl2 _))) fun r0 H0 h => ?_
    obtain ⟨h1, h2⟩ := h
    rw [h1, h2, List.set_set]
    clear h1 h2 r0 H0
    conv => whnf
    refine ⟨.tup [], _, CutW.at hkl (x := wkB l (oneC c n false) (.dat 8 [ccells (oneC c n false)] .no) e) (List.getElem?_set_self (hkl2 _)) (fun id h1 h2 => ?_) (wkB_bw _ _ _ _ _ (.dat _ _ _)), .free (.tup _ (by simp)), rfl, rfl⟩
    rw [List.getElem?_set_ne (fun h => h1 h.symm), List.getElem?_append_left h2]
  · iterate 3 (conv => whnf; try simp only [List.append_assoc, List.cons_append, List.nil_append, List.length_append, List.length_cons, List.length_nil, Nat.zero_add, Nat.add_assoc, Nat.reduceAdd, ga0, ga1, ga2, ga3, ga4, ga5, sa0, sa1, sa2, sa3, sa4, sa5, S2.setH_H, List.all_cons, List.all_nil, isDefd, nodupB, List.any_nil, Bool.and_true, Bool.not_false, List.foldl_cons, List.foldl_nil])
    rw [get_app hp]
    conv => whnf
    refine Call2.mono (hw1 _) fun r0 H0 h => ?_
    obtain ⟨h1, h2⟩ := h
    rw [h1, h2]
    clear h1 h2 r0 H0
    conv => whnf
    rw [List.getElem?_set_ne hkp, get_app hp]
    conv => whnf
    rw [get_set_app0 hkl]
    iterate 2 (conv => whnf; try simp only [List.append_assoc, List.cons_append, List.nil_append, List.length_append, List.length_cons, List.length_nil, Nat.zero_add, Nat.add_assoc, Nat.reduceAdd, ga0, ga1, ga2, ga3, ga4, ga5, sa0, sa1, sa2, sa3, sa4, sa5, S2.setH_H, List.all_cons, List.all_nil, isDefd, nodupB, List.any_nil, Bool.and_true, Bool.not_false, List.foldl_cons, List.foldl_nil])
    refine Call2.mono (wwith_ct G _ k l (withC c 0 (n, [])) _ e (fun n => .dat _ _ _) (List.getElem?_set_self (hkl2 _)) 1 (if true then 1 else 0, []) hb2) fun r0 H0 h => ?_
    obtain ⟨h1, h2⟩ := h
    rw [h1, h2, List.set_set]
    clear h1 h2 r0 H0
    conv => whnf
    rw [List.getElem?_set_ne hkp, get_app hp]
    conv => whnf
    refine Call2.mono (wtell_ct G _ k l (oneC c n true) e (List.getElem?_set_self (hkl2 _))) fun r0 H0 h => ?_
    obtain ⟨h1, h2⟩ := h
    rw [h1, h2, List.set_set]
    clear h1 h2 r0 H0
    conv => whnf
    refine ⟨.tup [], _, CutW.at hkl (x := wkB l (oneC c n true) (.dat 8 [ccells (oneC c n true)] .no) e) (List.getElem?_set_self (hkl2 _)) (fun id h1 h2 => ?_) (wkB_bw _ _ _ _ _ (.dat _ _ _)), .free (.tup _ (by simp)), rfl, rfl⟩
    rw [List.getElem?_set_ne (fun h => h1 h.symm), List.getElem?_append_left h2]

/-- The broker confirms: what the client is told. -/
def wConfirmed (l : LeaseL) (c : Cm) : LeaseL × Cm × List Cm × Int :=
  match confL l.s (argOf c.1 0).1 (decide ((argOf c.1 1).1 ≠ 0)) with
  | (s, n, e) => match ansL n s with
    | (m, is, many) => match is with
      | true => ({ l with s := s }, oneC c m many, [oneC c m many], e)
      | false => ({ l with s := s }, c, [], e)
theorem confL_length (s : SeqL) (up : Int) (many : Bool) : (confL s up many).2.1.length ≤ s.l.length ∧ (confL s up many).1.l.length ≤ s.l.length := by
  unfold confL
  split
  · exact ⟨Nat.zero_le _, Nat.le_refl _⟩
  · exact ⟨List.length_filter_le _ _, List.length_filter_le _ _⟩
set_option maxHeartbeats 4000000 in
theorem wconfirmed_ct (G : Nat → Option (List V)) (H : Heap) (hH : H.all noClsB = true) (k : Nat) (l : LeaseL) (c : Cm) (hkn : k ≠ 4294967295) (hk : H[k]? = some (wkB l c (.dat 0 [] .tight) 0)) (hsl : l.s.l.length * 8 ≤ maxBytes) (hb : c.1.2.2.length * 24 ≤ maxBytes)
    (hc : ∀ s n e, confL l.s (argOf c.1 0).1 (decide ((argOf c.1 1).1 ≠ 0)) = (s, n, e) → (ansL n s).2.1 = false → n = []) :
    Call2 Go.Proofs.Tryz.prog G 66 [.ptr k 0] H fun r H' => H' = H.set k (wkB (wConfirmed l c).1 (wConfirmed l c).2.1 (outV (wConfirmed l c).2.2.1) (wConfirmed l c).2.2.2) ∧ r = .tup [] := by
  have hkl := lt_of_get hk
  have hmb : maxBytes = 140737488355328 := rfl
  have hmx : maxLen = 9223372036854775807 := rfl
  have hn0 := fun (X Y : Heap) => num_ct G (H ++ X ++ Y) k l c _ 0 (get_app (get_app hk)) 0
  have hn1 := fun (X Y : Heap) => num_ct G (H ++ X ++ Y) k l c _ 0 (get_app (get_app hk)) 1
  have hcf := confirm_ct G l.s (argOf c.1 0).1 (decide ((argOf c.1 1).1 ≠ 0)) hsl
  obtain ⟨hl1, hl2⟩ := confL_length l.s (argOf c.1 0).1 (decide ((argOf c.1 1).1 ≠ 0))
  unfold wConfirmed
  generalize (argOf c.1 0).1 = up at hn0 hcf hc hl1 hl2 ⊢
  generalize (argOf c.1 1).1 = mn at hn1 hcf hc hl1 hl2 ⊢
  generalize confL l.s up (decide (mn ≠ 0)) = u at hcf hc hl1 hl2 ⊢
  obtain ⟨s2, nl, e2⟩ := u
  have ha := answer_ct G nl s2 (by simp only at hl1; omega) (by simp only at hl2; omega)
  have hc := hc _ _ _ rfl
  simp only at hcf hl1 hl2 ha hc ⊢
  generalize ansL nl s2 = v at ha hc ⊢
  obtain ⟨m, is, many⟩ := v
  simp only at ha hc ⊢
  have hkl2 : ∀ L : Heap, k < (H ++ L).length := fun L => by rw [List.length_append]; omega
  have hb1 : Nat.beq H.length k = false := by
    cases h : Nat.beq H.length k with
    | false => rfl
    | true => have := Nat.eq_of_beq_eq_true h; omega
  have hb2 : Nat.beq k noId = false := by
    cases h : Nat.beq k noId with
    | false => rfl
    | true => exact absurd (Nat.eq_of_beq_eq_true h) hkn
  obtain ⟨who, t, sq, nn, tx, gets, most⟩ := l
  refine Call2.cutW ?_
  refine stCall2 Go.Proofs.Tryz.func66 rfl (by decide) ?_
  conv => whnf
  intro hw
  refine wpc_drawG2 [15, 16] [] [] (by rfl) (by decide) (by decide) hw ?_
  conv => whnf
  rw [ga0]
  conv => whnf
  rw [get_app hk]
  conv => whnf
  rw [ga0]
  conv => whnf
  refine ⟨_, fun X _ => hn0 _ X, ?_⟩
  conv => whnf
  rw [ga0]
  conv => whnf
  refine ⟨_, fun X _ => hn1 _ X, ?_⟩
  conv => whnf
  refine ⟨_, fun X _ => hcf _, ?_⟩
  conv => whnf
  try simp only [List.append_assoc, List.cons_append, List.nil_append, List.length_append, List.length_cons, List.length_nil, Nat.zero_add, Nat.add_assoc, Nat.reduceAdd, ga0, ga1, ga2, ga3, ga4, ga5, sa0, sa1, sa2, sa3, sa4, sa5, S2.setH_H, List.all_cons, List.all_nil, isDefd, nodupB, List.any_nil, Bool.and_true, Bool.not_false, List.foldl_cons, List.foldl_nil]
  conv => whnf
  refine grd_intro (dqOkL_of (all_app hH rfl) (all_app hH rfl)) ?_
  conv => whnf
  intro hw2
  refine wpc_drawG2 [7, 10] [] [(1, 7)] (by rfl) (by decide) (by decide) hw2 ?_
  conv => whnf
  rw [ga0]
  conv => whnf
  rw [ga0]
  conv => whnf
  rw [ga1]
  conv => whnf
  rw [get_app hk]
  conv => whnf
  rw [List.getElem?_set_self (hkl2 _)]
  conv => whnf
  refine grd_intro (show ((!Nat.beq H.length k && !Nat.beq k noId) && true) = true by rw [hb1, hb2]; rfl) ?_
  rw [List.set_set]
  conv => whnf
  rw [get_set_app hkl 1]
  conv => whnf
  refine Call2.mono (ha _) fun r0 H0 h => ?_
  obtain ⟨h1, h2⟩ := h
  rw [h1, h2]
  clear h1 h2 r0 H0
  conv => whnf
  cases is
  · obtain rfl := hc rfl
    conv => whnf
    intro hw3
    refine wpc_unroll (n := 58) (lp2_round hw3 rfl ?_)
    conv => whnf
    refine ⟨.tup [], _, CutW.at hkl (x := wkB ⟨who, t, s2, nn, tx, gets, most⟩ c (.dat 0 [] .tight) e2) (List.getElem?_set_self (hkl2 _)) (fun id h1 h2 => ?_) (wkV_bw (.dat _ _ _) (.dat _ _ _) (.dat _ _ _) (.dat _ _ _) (outV_nil _)), .free (.tup _ (by simp)), rfl, rfl⟩
    rw [List.getElem?_set_ne (fun h => h1 h.symm), List.getElem?_append_left h2]
  · conv => whnf
    refine Call2.mono (wone_ct G _ k H.length ⟨who, t, s2, nn, tx, gets, most⟩ c e2 hb ((get_set_app0 hkl).trans rfl) (fun h => by omega) (List.getElem?_set_self (hkl2 _)) m many) fun r0 H0 h => ?_
    obtain ⟨h1, h2⟩ := h
    rw [h1, h2, List.set_set]
    clear h1 h2 r0 H0
    conv => whnf
    refine ⟨.tup [], _, CutW.at hkl (x := wkB ⟨who, t, s2, nn, tx, gets, most⟩ (oneC c m many) (.dat 8 [ccells (oneC c m many)] .no) e2) (List.getElem?_set_self (hkl2 _)) (fun id h1 h2 => ?_) (wkB_bw _ _ _ _ _ (.dat _ _ _)), .free (.tup _ (by simp)), rfl, rfl⟩
    rw [List.getElem?_set_ne (fun h => h1 h.symm), List.getElem?_append_left h2]
end Go.Abs.Sig

/-! LQ5 -/
namespace Go.Abs.Sig
open Go.RowKit Go.Abs
set_option linter.unusedSimpArgs false
set_option linter.unusedVariables false
set_option maxRecDepth 8000
attribute [local irreducible] StCall StYield WPc Weak IterOf Lp2

/-! what the broker says, as the client is told it -/
/-- What a lease and a command are, of which In is asked. -/
structure InOk (l : LeaseL) (c : Cm) : Prop where
  nl : l.n.l.length ≤ maxLen
  nl2 : l.n.l.length * 40 ≤ maxBytes
  tl : (l.t.l.length + 2) * 16 ≤ maxBytes
  rise : Rising l.t.l
  below : ∀ x ∈ l.t.l, x.1 < l.t.nx
  sl : l.s.l.length * 8 ≤ maxBytes
  up : l.s.l.Pairwise fun a b => a < b
  cl : c.1.2.2.length * 24 ≤ maxBytes
  cs : CmS c
theorem inOk_of {l : LeaseL} {c : Cm} (hs : LeaseS l) (hr : lRight l = true) (hc : CmS c) (hcl : c.1.2.2.length * 24 ≤ maxBytes) : InOk l c := by
  obtain ⟨h1, h2, h3, h4, h5, h6, h7, h8, h9, h10, h11, h12⟩ := lRight_of hr
  have hmb : maxBytes = 140737488355328 := rfl
  have hmx : maxLen = 9223372036854775807 := rfl
  have ht := (tRight_iff _).1 h4
  refine ⟨by omega, by omega, by omega, rising_of h4, fun x hx => (ht.2.1 x hx).2.1, by omega, ?_, hcl, hc⟩
  cases hon : l.s.on with
  | true => exact ((sRight_on _ hon).1 h5).2.2.2
  | false =>
    rw [((sRight_off _ hon).1 h5).2.2]
    exact List.Pairwise.nil
theorem rising_del {t : TagsL} {up most : Int} (h : Rising t.l) (hb : ∀ x ∈ t.l, x.1 < t.nx) : Rising (delL t up most).1.l := by
  unfold delL
  split
  · exact h
  split
  · exact h
  split
  · exact h
  · intro a b hbl hab
    simp only [List.length_append, List.length_singleton] at hbl
    rw [List.getElem_append_left (show a < t.l.length by omega), List.getElem_append]
    split
    · exact h a b _ hab
    · simp only [List.getElem_singleton]
      exact hb _ (List.getElem_mem _)
theorem del_len (t : TagsL) (up most : Int) : (delL t up most).1.l.length ≤ t.l.length + 1 := by
  unfold delL
  split
  · exact Nat.le_succ _
  split
  · exact Nat.le_succ _
  split
  · exact Nat.le_succ _
  · simp
theorem wNamed_args (l : LeaseL) (c : Cm) (e : Int) : (wNamed l c e).1.1.2.2.length = c.1.2.2.length := by
  unfold wNamed
  split
  · rfl
  · exact withOf_length _ _ _
theorem wNamed_e (l : LeaseL) (c : Cm) (e : Int) (h : (wNamed l c e).2.2.2 = true) : (wNamed l c e).2.1 = e := by
  unfold wNamed at h ⊢
  split
  · rename_i hx
    rw [hx] at h
    cases h
  · rfl
theorem foldl_max_mem : ∀ (r : List Int) (a : Int), r.foldl max a ∈ a :: r
  | [], a => List.mem_cons_self ..
  | b :: r, a => by
    have := foldl_max_mem r (max a b)
    rw [List.foldl_cons]
    rcases List.mem_cons.1 this with h | h
    · rw [h]
      rcases Int.le_total a b with h2 | h2
      · rw [Int.max_eq_right h2]; exact List.mem_cons_of_mem _ (List.mem_cons_self ..)
      · rw [Int.max_eq_left h2]; exact List.mem_cons_self ..
    · exact List.mem_cons_of_mem _ (List.mem_cons_of_mem _ h)
theorem mxL_mem {l : List Int} (hne : l ≠ []) : mxL l ∈ l := by
  unfold mxL mxTo
  rw [List.take_length]
  cases l with
  | nil => exact absurd rfl hne
  | cons a r => exact foldl_max_mem r a
/-- Of a rising row one number alone is settled at a time, or all up to one: there is always one answer. -/
theorem conf_one {l : SeqL} {up : Int} {many : Bool} (hp : l.l.Pairwise fun a b => a < b) (s : SeqL) (n : List Int) (e : Int) (h : confL l up many = (s, n, e)) (hf : (ansL n s).2.1 = false) : n = [] := by
  unfold ansL at hf
  by_cases h0 : n = []
  · exact h0
  rw [if_neg h0] at hf
  by_cases h1 : n.length = 1
  · rw [if_pos h1] at hf
    cases hf
  rw [if_neg h1] at hf
  split at hf
  · rename_i hany
    exfalso
    unfold confL at h
    split at h
    · cases h
      exact h0 rfl
    unfold conL at h
    cases h
    obtain ⟨x, hx, hxm⟩ := List.any_eq_true.1 hany
    have hxm := of_decide_eq_true hxm
    generalize (many && decide (up = 0)) = all at *
    generalize IntKind.u64.wrap (up - l.off) = top at *
    simp only [List.mem_filter, Bool.not_eq_true'] at hx
    obtain ⟨hxl, hxc⟩ := hx
    have hmem : mxL (l.l.filter (isC all top many)) ∈ l.l.filter (isC all top many) := mxL_mem h0
    have hm := (List.mem_filter.1 hmem).2
    generalize mxL (l.l.filter (isC all top many)) = mx at *
    unfold isC at hxc hm
    cases all
    · cases many
      · have hlen : 2 ≤ (l.l.filter (isC false top false)).length := by
          have := List.length_pos_iff.2 h0
          omega
        have hp2 := hp.sublist (List.filter_sublist (p := isC false top false) (l := l.l))
        have h3 := List.pairwise_iff_getElem.1 hp2 0 1 (by omega) (by omega) (by omega)
        have e0 := (List.mem_filter.1 (List.getElem_mem (show 0 < (l.l.filter (isC false top false)).length by omega))).2
        have e1 := (List.mem_filter.1 (List.getElem_mem (show 1 < (l.l.filter (isC false top false)).length by omega))).2
        simp only [isC, Bool.false_or, Bool.false_and, Bool.or_false, decide_eq_true_eq] at e0 e1
        omega
      · simp only [Bool.false_or, Bool.true_and, Bool.or_eq_false_iff, decide_eq_false_iff_not, Bool.or_eq_true, decide_eq_true_eq] at hxc hm
        omega
    · simp at hxc
  · cases hf

/-- A delivery, as it is told. -/
def wDeliv (l : LeaseL) (c : Cm) : LeaseL × Cm × List Cm × Int := match wNamed l c 0 with
  | (c1, e1, x, is) => match is with
    | false => (l, c1, [], e1)
    | true => ({ l with t := (delW l (argOf c1.1 1).1 x.2.2).1 }, withC c1 1 ((delW l (argOf c1.1 1).1 x.2.2).2.1, []), [withC c1 1 ((delW l (argOf c1.1 1).1 x.2.2).2.1, [])], (delW l (argOf c1.1 1).1 x.2.2).2.2)
def wGot (l : LeaseL) (c : Cm) : LeaseL × Cm × List Cm × Int := match l.gets with
  | [] => (l, c, [], 16)
  | f :: g => ({ l with gets := g, t := (delW { l with gets := g } (argOf c.1 0).1 f).1 }, withC c 0 ((delW { l with gets := g } (argOf c.1 0).1 f).2.1, []), [withC c 0 ((delW { l with gets := g } (argOf c.1 0).1 f).2.1, [])], (delW { l with gets := g } (argOf c.1 0).1 f).2.2)
/-- What each does. -/
def actI (g : Nat) (l : LeaseL) (c : Cm) : LeaseL × Cm × List Cm × Int :=
  if g = 61 then (l, (wNamed l c 0).1, if (wNamed l c 0).2.2.2 then [(wNamed l c 0).1] else [], (wNamed l c 0).2.1)
  else if g = 62 then wCancelled l c
  else if g = 63 then wDeliv l c
  else if g = 64 then wGot l c
  else if g = 65 then ((wFirst l 0).1, c, if (wFirst l 0).2.2.2 then [c] else [], (wFirst l 0).2.1)
  else if g = 66 then wConfirmed l c
  else (l, c, [c], 0)
theorem toOutV {G : Nat → Option (List V)} {H : Heap} {k g : Nat} {l : LeaseL} {c : Cm} {e : Int} {v : V} {o : List Cm} {l0 : LeaseL} {c0 : Cm} {v0 : V} {e0 : Int} (hk : H[k]? = some (wkB l0 c0 v0 e0)) (hv : v = .dat 0 [] .tight ∧ o = [] ∨ v = outV o)
    (h : Call2 Go.Proofs.Tryz.prog G g [.ptr k 0] H fun r H' => H' = H.set k (wkB l c v e) ∧ r = .tup []) : Call2 Go.Proofs.Tryz.prog G g [.ptr k 0] H fun r H' => H' = H.set k (wkB l c (outV o) e) ∧ r = .tup [] := by
  have hkl := lt_of_get hk
  refine Call2.cutW (Call2.mono h ?_)
  rintro r H' ⟨rfl, rfl⟩
  refine ⟨.tup [], _, CutW.at hkl (x := wkB l c v e) (List.getElem?_set_self hkl) (fun id h1 h2 => ?_) ?_, .free (.tup _ (by simp)), rfl, rfl⟩
  · rw [List.getElem?_set_ne (fun h => h1 h.symm)]
  · rcases hv with ⟨rfl, rfl⟩ | rfl
    · exact wkV_bw (.dat _ _ _) (.dat _ _ _) (.dat _ _ _) (.dat _ _ _) (outV_nil _)
    · exact wkB_bw _ _ _ _ _ (.dat _ _ _)
theorem acti_ct (G : Nat → Option (List V)) (H : Heap) (hH : H.all noClsB = true) (k : Nat) (l : LeaseL) (c : Cm) (hkn : k ≠ 4294967295) (hk : H[k]? = some (wkB l c (.dat 0 [] .tight) 0)) (h : InOk l c) :
    ∀ g : Nat, g = 31 ∨ (61 ≤ g ∧ g ≤ 66) → Call2 Go.Proofs.Tryz.prog G g [.ptr k 0] H fun r H' => H' = H.set k (wkB (actI g l c).1 (actI g l c).2.1 (outV (actI g l c).2.2.1) (actI g l c).2.2.2) ∧ r = .tup [] := by
  have hmb : maxBytes = 140737488355328 := rfl
  have htl := h.tl
  intro g hg
  have : g = 31 ∨ g = 61 ∨ g = 62 ∨ g = 63 ∨ g = 64 ∨ g = 65 ∨ g = 66 := by omega
  rcases this with rfl | rfl | rfl | rfl | rfl | rfl | rfl
  · exact toOutV hk (.inr rfl) (wtell_ct G H k l c 0 hk)
  · have hc := wconsumed_ct G H hH k l c 0 hk h.nl h.cl
    refine toOutV hk ?_ hc
    show (if (wNamed l c 0).2.2.2 then V.dat 8 [ccells (wNamed l c 0).1] .no else .dat 0 [] .tight) = _ ∧ (if (wNamed l c 0).2.2.2 then [(wNamed l c 0).1] else []) = _ ∨ _ = outV (if (wNamed l c 0).2.2.2 then [(wNamed l c 0).1] else [])
    cases (wNamed l c 0).2.2.2
    · exact .inl ⟨rfl, rfl⟩
    · exact .inr rfl
  · exact wcancelled_ct G H hH k l c hk h.nl2 h.cl
  · have hd := wdelivered_ct G H hH k l c hk h.nl (by omega) h.cl (by rw [wNamed_args]; exact h.cl) (wNamed_e l c 0) (rising_del h.rise h.below) (by have := del_len l.t (argOf (wNamed l c 0).1.1 1).1 l.most; omega)
    show Call2 Go.Proofs.Tryz.prog G 63 [.ptr k 0] H fun r H' => H' = H.set k (wkB (wDeliv l c).1 (wDeliv l c).2.1 (outV (wDeliv l c).2.2.1) (wDeliv l c).2.2.2) ∧ r = .tup []
    unfold wDelivered at hd
    unfold wDeliv
    generalize wNamed l c 0 = u at hd ⊢
    obtain ⟨c1, e1, x, is⟩ := u
    cases is
    · exact toOutV hk (.inl ⟨rfl, rfl⟩) hd
    · exact toOutV hk (.inr rfl) hd
  · have hd := wgot_ct G H hH k l c hk (by omega) h.cl (rising_del h.rise h.below) (by have := del_len l.t (argOf c.1 0).1 l.most; omega)
    show Call2 Go.Proofs.Tryz.prog G 64 [.ptr k 0] H fun r H' => H' = H.set k (wkB (wGot l c).1 (wGot l c).2.1 (outV (wGot l c).2.2.1) (wGot l c).2.2.2) ∧ r = .tup []
    have hd : Call2 Go.Proofs.Tryz.prog G 64 [.ptr k 0] H (fun r H' => H' = _ ∧ r = .tup []) := Call2.mono hd fun r H' h => ⟨h.2, h.1⟩
    unfold wGot
    cases hg : l.gets with
    | nil =>
      rw [hg] at hd
      exact toOutV hk (.inl ⟨rfl, rfl⟩) hd
    | cons f g =>
      rw [hg] at hd
      exact toOutV hk (.inr rfl) hd
  · have hc := wempty_ct G H k l c 0 hk
    refine toOutV hk ?_ hc
    show (wEmpty l c 0).2.1 = _ ∧ (if (wFirst l 0).2.2.2 then [c] else []) = _ ∨ (wEmpty l c 0).2.1 = outV (if (wFirst l 0).2.2.2 then [c] else [])
    unfold wEmpty
    simp only
    cases (wFirst l 0).2.2.2
    · exact .inl ⟨rfl, rfl⟩
    · exact .inr rfl
  · exact wconfirmed_ct G H hH k l c hkn hk h.sl h.cl (fun s n e h1 h2 => conf_one h.up s n e h1 h2)
end Go.Abs.Sig
