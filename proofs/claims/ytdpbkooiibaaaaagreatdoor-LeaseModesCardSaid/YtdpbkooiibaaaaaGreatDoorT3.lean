/- The walks of some functions: what they compute. -/
import Derived.Test.YtdpbkooiibaaaaaGreatDoorT2
import Derived.Test.YtdpbkooiibaaaaaGreatDoorRows
import Derived.LaidMore
import Derived.Stop.Joined
import Derived.Lay

set_option linter.unusedVariables false
set_option linter.unusedSimpArgs false
/-! LC6 -/
namespace Go.Abs.Sig
open Go.RowKit Go.Abs
set_option linter.unusedSimpArgs false
set_option linter.unusedVariables false
set_option maxRecDepth 8000
attribute [local irreducible] StCall StYield WPc Weak IterOf Lp2

theorem ups_ct (G : Nat → Option (List V)) (l : List (Int × Int)) (H : Heap) : Call2 Go.Proofs.Tryz.prog G 148 [.dat 2 (tagR l) .no] H fun r H' => H' = H ++ [some (.cells 23 [.dat 2 (tagR l) .no])] ∧ r = .fn (.func 170) [] [.ptr H.length 0] := by
  refine stCall2 Go.Proofs.Tryz.func148 rfl (by decide) ?_
  conv => whnf
  exact ⟨rfl, rfl⟩

/-- From where to where, and is there any? -/
def setR (l : List (Int × Int)) (m : Int) (many : Bool) : Nat × Nat × Bool := match many with
  | false => (cntL l m, cntL l m + 1, plL l m)
  | true => if m = 0 then (0, l.length, decide (0 < l.length)) else (0, cntL l m + 1, plL l m)
def upsOf (l : List (Int × Int)) : List Int := l.map (·.2)
def setL (t : TagsL) (m : Int) (many : Bool) : TagsL × List Int × Int :=
  match (setR t.l m many).2.2 with
  | true => ({ t with l := t.l.take (setR t.l m many).1 ++ t.l.drop (setR t.l m many).2.1 }, upsOf ((t.l.take (setR t.l m many).2.1).drop (setR t.l m many).1), 0)
  | false => (t, [], 13)

theorem fn170_vw {n k : Nat} (h : k < n) : VW n (.fn (.func 170) [] [.ptr k 0]) (.fn (.func 170) [] [.ptr k 0]) := .fn _ _ _ (fun i v h => by simp at h) (fun i v hv => by
  have hv := List.mem_of_getElem? hv
  simp only [List.mem_cons, List.not_mem_nil, or_false] at hv
  subst hv
  exact .ptr k 0 h)
theorem fnOk170 : fnOk Go.Proofs.Tryz.prog 170 := ⟨_, Go.Proofs.Tryz.func170, rfl, by decide⟩
def setH (t : TagsL) (x : List (Int × Int)) (i : Nat) : Heap :=
  [some (.cells 25 (tagsC t)), some (.cells 25 [.int .u64 0, .int .u64 0, .dat 0 [] .tight]), some (.cells 26 [.dat 1 (numR (upsOf (x.take i))) (.cls 48)]), some (.cells 23 [.dat 2 (tagR x) .no])]
theorem upR_at {x : List (Int × Int)} {i : Nat} {v : List V} (h : (upR x)[i]? = some v) : ∃ hi : i < x.length, v = [.int .u64 x[i].2] := by
  have hi : i < x.length := by have := (List.getElem?_eq_some_iff.1 h).1; simpa [upR] using this
  refine ⟨hi, ?_⟩
  simp [upR, hi] at h
  exact h.symm
theorem numR_take {x : List (Int × Int)} {i : Nat} (hi : i < x.length) : numR (upsOf (x.take i)) ++ [[.int .u64 x[i].2]] = numR (upsOf (x.take (i + 1))) := by
  rw [List.take_succ_eq_append_getElem hi]
  simp only [numR, upsOf, List.map_append, List.map_cons, List.map_nil]

theorem ccw_ct {G : Nat → Option (List V)} {a b : List (Int × Int)} {r : V} (h : ∀ H, Call2 Go.Proofs.Tryz.prog G 149 [.dat 1 (ccR a b) .no] H fun r' H' => H' = H ∧ r' = r) (H : Heap) :
    Call2 Go.Proofs.Tryz.prog G 149 [.dat 1 [[.dat 2 (tagR a) .tight], [.dat 2 (tagR b) .no]] .tight] H fun r' H' => H' = H ∧ r' = r := by
  refine Call2.weakA (.cons (.rows 1 _ (ccR a b) _ rfl (fun i r r' h h' => ?_) (fun i j v v' h h' => ?_)) .nil) (h H)
  · match i, h, h' with
    | 0, h, h' => cases h; cases h'; rfl
    | 1, h, h' => cases h; cases h'; rfl
    | i + 2, h, h' => cases h
  · match i, j, h, h' with
    | 0, 0, h, h' => cases h; cases h'; exact dw_no _ _ _
    | 1, 0, h, h' => cases h; cases h'; exact dw_no _ _ _
    | 0, j + 1, h, h' => cases h
    | 1, j + 1, h, h' => cases h
    | i + 2, j, h, h' => cases h
theorem zblk_bw (n : Nat) : BW n (some (.cells 25 [.int .u64 0, .int .u64 0, .dat 0 [] .tight])) (some (.cells 25 [.int .u64 0, .int .u64 0, .dat 0 [] .tight])) :=
  .cells _ _ _ (.cons (.im _) (.cons (.im _) (.cons (.dat _ _ _) .nil)))
theorem settle_ct (G : Nat → Option (List V)) (t : TagsL) (m : Int) (many : Bool) (hl : t.l.length * 16 ≤ maxBytes) (hr : Rising t.l) (H : Heap) :
    Call2 Go.Proofs.Tryz.prog G 127 [.agg (tagsC t), .int .u64 m, .bool many] H fun r H' => H' = H ∧ r = .tup [.agg (tagsC (setL t m many).1), .dat 1 (numR (setL t m many).2.1) .no, .int .i64 (setL t m many).2.2] := by
  refine Call2.free (fun x hx => by
    simp only [List.mem_cons, List.not_mem_nil, or_false] at hx
    rcases hx with rfl | rfl | rfl
    · exact .agg _ (tagsC_free' _)
    · exact .im _
    · exact .im _) ?_ H
  have hmb : maxBytes = 140737488355328 := rfl
  have fr : ∀ s' (n : List Int) (e : Int), (V.tup [.agg (tagsC s'), .dat 1 (numR n) .no, .int .i64 e]).Free := fun s' n e => .tup _ (by
    intro v hv
    simp only [List.mem_cons, List.not_mem_nil, or_false] at hv
    rcases hv with rfl | rfl | rfl
    · exact .agg _ (tagsC_free' _)
    · exact .dat _ _ _ (by simp)
    · exact .im _)
  refine Call2.weakR ?_
  have hp := place_ct G t m (by omega) hr
  have hcl : cntL t.l m ≤ t.l.length := List.countP_le_length
  have hpl : plL t.l m = true → cntL t.l m < t.l.length := fun h => by
    unfold plL at h
    cases hx : t.l[cntL t.l m]? with
    | none => rw [hx] at h; cases h
    | some x => exact (List.getElem?_eq_some_iff.1 hx).1
  have hset : setR t.l m many = match many with
    | false => (cntL t.l m, cntL t.l m + 1, plL t.l m)
    | true => if m = 0 then (0, t.l.length, decide (0 < t.l.length)) else (0, cntL t.l m + 1, plL t.l m) := by unfold setR; rfl
  have hbad : ∀ r, setR t.l m many = r → r.2.2 = false → setL t m many = (t, [], 13) := fun r h1 h2 => by unfold setL; rw [h1, h2]
  have hgood : ∀ a b, setR t.l m many = (a, b, true) → setL t m many = ({ t with l := t.l.take a ++ t.l.drop b }, upsOf ((t.l.take b).drop a), 0) := fun a b h1 => by unfold setL; rw [h1]
  generalize plL t.l m = is at hp hpl hset
  generalize cntL t.l m = ci at hp hpl hset hcl
  generalize setL t m many = res at hbad hgood ⊢
  obtain ⟨nx, la, l⟩ := t
  have hvl : (tagR l).length = l.length := by simp [tagR]
  have hl' : l.length * 16 ≤ maxBytes := hl
  have hwc : IntKind.i64.wrap ((ci : Int) + 1) = ((ci + 1 : Nat) : Int) := by
    have : ci ≤ l.length := hcl
    rw [wrap_i64 (by omega) (by omega)]; rfl
  refine stCall2 Go.Proofs.Tryz.func127 rfl (by decide) ?_
  conv => whnf
  refine Call2.mono (hp _) fun r0 H0 h => ?_
  obtain ⟨h1, h2⟩ := h
  rw [h1, h2]
  clear h1 h2 r0 H0
  conv => whnf
  rw [hwc]
  cases many
  · conv => whnf
    cases is
    · conv => whnf
      obtain rfl := hbad _ hset rfl
      exact ⟨.tup [.agg (tagsC ⟨nx, la, l⟩), .dat 1 (numR []) .no, .int .i64 13], VW.tupL (.cons (.free (.agg _ (tagsC_free' _))) (.cons (.nil _ _ _ _ (.inl rfl)) (.cons (.im _) .nil))), fr _ _ _, rfl⟩
    · have hres := hgood ci (ci + 1) hset
      clear hbad hgood
      subst hres
      have hab : ci ≤ ci + 1 := by omega
      have hbl : ci + 1 ≤ l.length := hpl rfl
      generalize ci + 1 = b at hab hbl hwc ⊢
      generalize hca : ci = a at *
      have hres : ∀ y : List (Int × Int), y = (l.take b).drop a → V.tup [.agg (tagsC ⟨nx, la, l.take a ++ l.drop b⟩), .dat 1 (numR (upsOf y)) .no, .int .i64 0] = V.tup [.agg (tagsC ({ nx := nx, la := la, l := l.take a ++ l.drop b }, upsOf ((l.take b).drop a), (0 : Int)).1), .dat 1 (numR ({ nx := nx, la := la, l := l.take a ++ l.drop b : TagsL }, upsOf ((l.take b).drop a), (0 : Int)).2.1) .no, .int .i64 0] := fun y h => by rw [h]
      conv => whnf
      refine ⟨⟨.inr rfl, by omega, by omega, by first | exact Int.le_refl _ | omega | (show ((b : Nat) : Int) ≤ ((tagR l).length : Int); rw [hvl]; omega)⟩, ?_⟩
      have hxr : List.drop (Int.toNat (a : Int)) (List.take (Int.toNat (b : Int)) (tagR l)) = tagR ((l.take b).drop a) := by simp [tagR, List.map_take, List.map_drop]
      have hxlen : ((l.take b).drop a).length ≤ l.length := by simp; omega
      have hlo : tagR (l.take a) = (tagR l).take a := by simp [tagR, List.map_take]
      have hhi : tagR (l.drop b) = (tagR l).drop b := by simp [tagR, List.map_drop]
      conv => whnf
      rw [hxr]
      have hres := hres _ rfl
      generalize (l.take b).drop a = x at hxlen hres ⊢
      clear hxr
      have hu := ups_ct G x
      refine Call2.mono (hu _) fun r0 H0 h => ?_
      obtain ⟨h1, h2⟩ := h
      rw [h1, h2]
      clear h1 h2 r0 H0
      conv => whnf
      intro hw
      have hi := ups1_ct G x (by omega) 3
      refine WPc.weak (σ0 := (headS 63 ([.bad, .bad, .bad, .ptr 0 0, .bad, .bad, .ptr 1 0, .bad, .bad, .int .i64 (a : Int), .bad, .int .i64 (b : Int), .ptr 2 0] ++ List.replicate 30 .bad ++ [.fn (.func 170) [] [.ptr 3 0]] ++ List.replicate 19 .bad) (setH ⟨nx, la, l⟩ x 0) [] none).st) ?_ (Nat.le_of_ble_eq_true rfl) ?_
      · exact weak2 hw rfl ⟨.ptr 0 0 (Nat.le_of_ble_eq_true rfl), .ptr 1 0 (Nat.le_of_ble_eq_true rfl), .im _, .im _, .ptr 2 0 (Nat.le_of_ble_eq_true rfl), fn170_vw (Nat.le_of_ble_eq_true rfl), trivial⟩
          (.cons (.free (tagsC_free' _)) (.cons (zblk_bw _) (.cons (.cells _ _ _ (.cons (.nil _ _ _ _ (.inl rfl)) .nil)) (.cons (.cells _ _ _ (.cons (.dat _ _ _) .nil)) (.nil _))))) (fun id hid => by cases hid) rfl (fun id hid => by cases hid)
      clear hw
      refine wpc_rangeIter2 hi (Nat.le_of_ble_eq_true rfl) rfl rfl fnOk170 (fun i H' => H' = setH ⟨nx, la, l⟩ x i) rfl ?_ ?_ ?_ ?_ ?_
      · rintro i H' rfl; rfl
      · rintro i H' rfl; rfl
      · intro v hv
        obtain ⟨y, _, rfl⟩ := List.mem_map.1 hv
        rfl
      · rintro i v H' hv rfl hlen hs'
        obtain ⟨hix, rfl⟩ := upR_at hv
        have hnl : (numR (upsOf (x.take i))).length = i := by simp [numR, upsOf]; omega
        conv => whnf
        refine ⟨rfl, rfl, ?_⟩
        conv => whnf
        refine ⟨.inr rfl, .inr rfl, ?_, ?_, ?_, ?_⟩
        · intro r hr
          obtain rfl := List.mem_singleton.1 hr
          rfl
        · show ((numR (upsOf (x.take i))).length + 1) * 8 ≤ maxBytes
          rw [hnl]; omega
        · show (numR (upsOf (x.take i))).length + 1 ≤ maxBytes
          rw [hnl]; omega
        have hap := numR_take hix
        conv => whnf
        refine ⟨setH ⟨nx, la, l⟩ x (i + 1), [], by unfold setH; rw [← hap]; rfl, rfl, ?_, rfl⟩
        intro id b hb
        have hb := List.mem_of_getElem? hb
        simp only [setH, List.mem_cons, Option.some.injEq, List.not_mem_nil, or_false] at hb
        rcases hb with rfl | rfl | rfl | rfl
        · exact .inr (.free (tagsC_free' _))
        · exact .inr (zblk_bw _)
        · exact .inr (.cells _ _ _ (.cons (.dat _ _ _) .nil))
        · exact .inr (.cells _ _ _ (.cons (.dat _ _ _) .nil))
      · rintro H' rfl
        have hxx : x.take (upR x).length = x := by simp [upR]
        have hcc := concat2_ct G (l.take a) (l.drop b) (by simp; omega)
        conv => whnf
        intro hw5
        refine wpc_draw2 12 (by rfl) (by decide) (by decide) hw5 ?_
        conv => whnf
        have hlo2 : List.drop (Int.toNat 0) (List.take (Int.toNat (a : Int)) (tagR l)) = tagR (l.take a) := by rw [hlo]; simp
        have hhi2 : List.drop (Int.toNat (b : Int)) (List.take (Int.toNat ((tagR l).length : Int)) (tagR l)) = tagR (l.drop b) := by rw [hhi]; simp
        refine ⟨⟨.inr rfl, Int.le_refl _, by omega, rfl, by show ((a : Nat) : Int) ≤ ((tagR l).length : Int); rw [hvl]; omega⟩, ?_⟩
        rw [hlo2]
        conv => whnf
        refine ⟨⟨.inr rfl, by omega, by first | exact Int.le_refl _ | omega | (show ((b : Nat) : Int) ≤ ((tagR l).length : Int); rw [hvl]; omega), Int.le_refl _⟩, ?_⟩
        rw [hhi2]
        conv => whnf
        refine ⟨_, fun _ _ => ccw_ct hcc _, ?_⟩
        conv => whnf
        intro hw6
        refine wpc_drawG2 [2] [] [(1, 2)] (by rfl) (by decide) (by decide) hw6 ?_
        conv => whnf
        refine ⟨.tup [.agg (tagsC ⟨nx, la, l.take a ++ l.drop b⟩), .dat 1 (numR (upsOf x)) .no, .int .i64 0], ?_, fr _ _ _, ?_⟩
        · refine VW.tupL (.cons (.free (.agg _ (tagsC_free' ⟨nx, la, l.take a ++ l.drop b⟩))) (.cons ?_ (.cons (.im _) .nil)))
          rw [hxx]
          exact .no _ _ _
        · exact hres
  · conv => whnf
    by_cases hm0 : m = 0
    · refine br_t (show decide (m = 0) = true from decide_eq_true hm0) ?_
      conv => whnf
      intro hw8
      refine wpc_draw2 9 (by rfl) (by decide) (by decide) hw8 ?_
      conv => whnf
      by_cases hl0 : 0 < l.length
      · have hset2 : setR l m true = (0, l.length, true) := hset.trans (by show (if m = 0 then _ else _) = _; rw [if_pos hm0, decide_eq_true hl0])
        have hres := hgood 0 l.length hset2
        clear hbad hgood
        subst hres
        have hab : 0 ≤ l.length := by omega
        have hbl : l.length ≤ l.length := Nat.le_refl _
        have hd : decide (0 < ((tagR l).length : Int)) = true := decide_eq_true (by rw [hvl]; omega)
        rw [hd]
        conv => whnf
        rw [hvl]
        have hres : ∀ y : List (Int × Int), y = (l.take l.length).drop 0 → V.tup [.agg (tagsC ⟨nx, la, l.take 0 ++ l.drop l.length⟩), .dat 1 (numR (upsOf y)) .no, .int .i64 0] = V.tup [.agg (tagsC ({ nx := nx, la := la, l := l.take 0 ++ l.drop l.length }, upsOf ((l.take l.length).drop 0), (0 : Int)).1), .dat 1 (numR ({ nx := nx, la := la, l := l.take 0 ++ l.drop l.length : TagsL }, upsOf ((l.take l.length).drop 0), (0 : Int)).2.1) .no, .int .i64 0] := fun y h => by rw [h]
        generalize hbb : l.length = b at hab hbl hvl hres ⊢
        refine ⟨⟨.inr rfl, by omega, by omega, by first | exact Int.le_refl _ | omega | (show ((b : Nat) : Int) ≤ ((tagR l).length : Int); rw [hvl]; omega)⟩, ?_⟩
        have hxr : List.drop (Int.toNat (0 : Int)) (List.take (Int.toNat (b : Int)) (tagR l)) = tagR ((l.take b).drop 0) := by simp [tagR, List.map_take, List.map_drop]
        have hxlen : ((l.take b).drop 0).length ≤ l.length := by simp; omega
        have hlo : tagR (l.take 0) = (tagR l).take 0 := by simp [tagR, List.map_take]
        have hhi : tagR (l.drop b) = (tagR l).drop b := by simp [tagR, List.map_drop]
        conv => whnf
        rw [hxr]
        have hres := hres _ rfl
        generalize (l.take b).drop 0 = x at hxlen hres ⊢
        clear hxr
        have hu := ups_ct G x
        refine Call2.mono (hu _) fun r0 H0 h => ?_
        obtain ⟨h1, h2⟩ := h
        rw [h1, h2]
        clear h1 h2 r0 H0
        conv => whnf
        intro hw
        have hi := ups1_ct G x (by omega) 3
        refine WPc.weak (σ0 := (headS 63 ([.bad, .bad, .bad, .ptr 0 0, .bad, .bad, .ptr 1 0, .bad, .bad, .int .i64 (0 : Int), .bad, .int .i64 (b : Int), .ptr 2 0] ++ List.replicate 30 .bad ++ [.fn (.func 170) [] [.ptr 3 0]] ++ List.replicate 19 .bad) (setH ⟨nx, la, l⟩ x 0) [] none).st) ?_ (Nat.le_of_ble_eq_true rfl) ?_
        · exact weak2 hw rfl ⟨.ptr 0 0 (Nat.le_of_ble_eq_true rfl), .ptr 1 0 (Nat.le_of_ble_eq_true rfl), .im _, .im _, .ptr 2 0 (Nat.le_of_ble_eq_true rfl), fn170_vw (Nat.le_of_ble_eq_true rfl), trivial⟩
            (.cons (.free (tagsC_free' _)) (.cons (zblk_bw _) (.cons (.cells _ _ _ (.cons (.nil _ _ _ _ (.inl rfl)) .nil)) (.cons (.cells _ _ _ (.cons (.dat _ _ _) .nil)) (.nil _))))) (fun id hid => by cases hid) rfl (fun id hid => by cases hid)
        clear hw
        refine wpc_rangeIter2 hi (Nat.le_of_ble_eq_true rfl) rfl rfl fnOk170 (fun i H' => H' = setH ⟨nx, la, l⟩ x i) rfl ?_ ?_ ?_ ?_ ?_
        · rintro i H' rfl; rfl
        · rintro i H' rfl; rfl
        · intro v hv
          obtain ⟨y, _, rfl⟩ := List.mem_map.1 hv
          rfl
        · rintro i v H' hv rfl hlen hs'
          obtain ⟨hix, rfl⟩ := upR_at hv
          have hnl : (numR (upsOf (x.take i))).length = i := by simp [numR, upsOf]; omega
          conv => whnf
          refine ⟨rfl, rfl, ?_⟩
          conv => whnf
          refine ⟨.inr rfl, .inr rfl, ?_, ?_, ?_, ?_⟩
          · intro r hr
            obtain rfl := List.mem_singleton.1 hr
            rfl
          · show ((numR (upsOf (x.take i))).length + 1) * 8 ≤ maxBytes
            rw [hnl]; omega
          · show (numR (upsOf (x.take i))).length + 1 ≤ maxBytes
            rw [hnl]; omega
          have hap := numR_take hix
          conv => whnf
          refine ⟨setH ⟨nx, la, l⟩ x (i + 1), [], by unfold setH; rw [← hap]; rfl, rfl, ?_, rfl⟩
          intro id b hb
          have hb := List.mem_of_getElem? hb
          simp only [setH, List.mem_cons, Option.some.injEq, List.not_mem_nil, or_false] at hb
          rcases hb with rfl | rfl | rfl | rfl
          · exact .inr (.free (tagsC_free' _))
          · exact .inr (zblk_bw _)
          · exact .inr (.cells _ _ _ (.cons (.dat _ _ _) .nil))
          · exact .inr (.cells _ _ _ (.cons (.dat _ _ _) .nil))
        · rintro H' rfl
          have hxx : x.take (upR x).length = x := by simp [upR]
          have hcc := concat2_ct G (l.take 0) (l.drop b) (by simp; omega)
          conv => whnf
          intro hw5
          refine wpc_draw2 12 (by rfl) (by decide) (by decide) hw5 ?_
          conv => whnf
          have hlo2 : List.drop (Int.toNat 0) (List.take (Int.toNat (0 : Int)) (tagR l)) = tagR (l.take 0) := by rw [hlo]; simp
          have hhi2 : List.drop (Int.toNat (b : Int)) (List.take (Int.toNat ((tagR l).length : Int)) (tagR l)) = tagR (l.drop b) := by rw [hhi]; simp
          refine ⟨⟨.inr rfl, Int.le_refl _, by omega, rfl, by show ((0 : Nat) : Int) ≤ ((tagR l).length : Int); rw [hvl]; omega⟩, ?_⟩
          rw [hlo2]
          conv => whnf
          refine ⟨⟨.inr rfl, by omega, by first | exact Int.le_refl _ | omega | (show ((b : Nat) : Int) ≤ ((tagR l).length : Int); rw [hvl]; omega), Int.le_refl _⟩, ?_⟩
          rw [hhi2]
          conv => whnf
          refine ⟨_, fun _ _ => ccw_ct hcc _, ?_⟩
          conv => whnf
          intro hw6
          refine wpc_drawG2 [2] [] [(1, 2)] (by rfl) (by decide) (by decide) hw6 ?_
          conv => whnf
          refine ⟨.tup [.agg (tagsC ⟨nx, la, l.take 0 ++ l.drop b⟩), .dat 1 (numR (upsOf x)) .no, .int .i64 0], ?_, fr _ _ _, ?_⟩
          · refine VW.tupL (.cons (.free (.agg _ (tagsC_free' ⟨nx, la, l.take 0 ++ l.drop b⟩))) (.cons ?_ (.cons (.im _) .nil)))
            rw [hxx]
            exact .no _ _ _
          · exact hres
      · have hset2 : setR l m true = (0, l.length, false) := hset.trans (by show (if m = 0 then _ else _) = _; rw [if_pos hm0, decide_eq_false hl0])
        have hd : decide (0 < ((tagR l).length : Int)) = false := decide_eq_false (by rw [hvl]; omega)
        rw [hd]
        conv => whnf
        obtain rfl := hbad _ hset2 rfl
        exact ⟨.tup [.agg (tagsC ⟨nx, la, l⟩), .dat 1 (numR []) .no, .int .i64 13], VW.tupL (.cons (.free (.agg _ (tagsC_free' _))) (.cons (.nil _ _ _ _ (.inl rfl)) (.cons (.im _) .nil))), fr _ _ _, rfl⟩
    · refine br_f (show decide (m = 0) = false from decide_eq_false hm0) ?_
      have hset2 : setR l m true = (0, ci + 1, is) := hset.trans (by show (if m = 0 then _ else _) = _; rw [if_neg hm0])
      cases is
      · conv => whnf
        obtain rfl := hbad _ hset2 rfl
        exact ⟨.tup [.agg (tagsC ⟨nx, la, l⟩), .dat 1 (numR []) .no, .int .i64 13], VW.tupL (.cons (.free (.agg _ (tagsC_free' _))) (.cons (.nil _ _ _ _ (.inl rfl)) (.cons (.im _) .nil))), fr _ _ _, rfl⟩
      · have hres := hgood 0 (ci + 1) hset2
        clear hbad hgood
        subst hres
        have hab : 0 ≤ ci + 1 := by omega
        have hbl : ci + 1 ≤ l.length := hpl rfl
        generalize ci + 1 = b at hab hbl hwc ⊢
        have hres : ∀ y : List (Int × Int), y = (l.take b).drop 0 → V.tup [.agg (tagsC ⟨nx, la, l.take 0 ++ l.drop b⟩), .dat 1 (numR (upsOf y)) .no, .int .i64 0] = V.tup [.agg (tagsC ({ nx := nx, la := la, l := l.take 0 ++ l.drop b }, upsOf ((l.take b).drop 0), (0 : Int)).1), .dat 1 (numR ({ nx := nx, la := la, l := l.take 0 ++ l.drop b : TagsL }, upsOf ((l.take b).drop 0), (0 : Int)).2.1) .no, .int .i64 0] := fun y h => by rw [h]
        conv => whnf
        refine ⟨⟨.inr rfl, by omega, by omega, by first | exact Int.le_refl _ | omega | (show ((b : Nat) : Int) ≤ ((tagR l).length : Int); rw [hvl]; omega)⟩, ?_⟩
        have hxr : List.drop (Int.toNat (0 : Int)) (List.take (Int.toNat (b : Int)) (tagR l)) = tagR ((l.take b).drop 0) := by simp [tagR, List.map_take, List.map_drop]
        have hxlen : ((l.take b).drop 0).length ≤ l.length := by simp; omega
        have hlo : tagR (l.take 0) = (tagR l).take 0 := by simp [tagR, List.map_take]
        have hhi : tagR (l.drop b) = (tagR l).drop b := by simp [tagR, List.map_drop]
        conv => whnf
        rw [hxr]
        have hres := hres _ rfl
        generalize (l.take b).drop 0 = x at hxlen hres ⊢
        clear hxr
        have hu := ups_ct G x
        refine Call2.mono (hu _) fun r0 H0 h => ?_
        obtain ⟨h1, h2⟩ := h
        rw [h1, h2]
        clear h1 h2 r0 H0
        conv => whnf
        intro hw
        have hi := ups1_ct G x (by omega) 3
        refine WPc.weak (σ0 := (headS 63 ([.bad, .bad, .bad, .ptr 0 0, .bad, .bad, .ptr 1 0, .bad, .bad, .int .i64 (0 : Int), .bad, .int .i64 (b : Int), .ptr 2 0] ++ List.replicate 30 .bad ++ [.fn (.func 170) [] [.ptr 3 0]] ++ List.replicate 19 .bad) (setH ⟨nx, la, l⟩ x 0) [] none).st) ?_ (Nat.le_of_ble_eq_true rfl) ?_
        · exact weak2 hw rfl ⟨.ptr 0 0 (Nat.le_of_ble_eq_true rfl), .ptr 1 0 (Nat.le_of_ble_eq_true rfl), .im _, .im _, .ptr 2 0 (Nat.le_of_ble_eq_true rfl), fn170_vw (Nat.le_of_ble_eq_true rfl), trivial⟩
            (.cons (.free (tagsC_free' _)) (.cons (zblk_bw _) (.cons (.cells _ _ _ (.cons (.nil _ _ _ _ (.inl rfl)) .nil)) (.cons (.cells _ _ _ (.cons (.dat _ _ _) .nil)) (.nil _))))) (fun id hid => by cases hid) rfl (fun id hid => by cases hid)
        clear hw
        refine wpc_rangeIter2 hi (Nat.le_of_ble_eq_true rfl) rfl rfl fnOk170 (fun i H' => H' = setH ⟨nx, la, l⟩ x i) rfl ?_ ?_ ?_ ?_ ?_
        · rintro i H' rfl; rfl
        · rintro i H' rfl; rfl
        · intro v hv
          obtain ⟨y, _, rfl⟩ := List.mem_map.1 hv
          rfl
        · rintro i v H' hv rfl hlen hs'
          obtain ⟨hix, rfl⟩ := upR_at hv
          have hnl : (numR (upsOf (x.take i))).length = i := by simp [numR, upsOf]; omega
          conv => whnf
          refine ⟨rfl, rfl, ?_⟩
          conv => whnf
          refine ⟨.inr rfl, .inr rfl, ?_, ?_, ?_, ?_⟩
          · intro r hr
            obtain rfl := List.mem_singleton.1 hr
            rfl
          · show ((numR (upsOf (x.take i))).length + 1) * 8 ≤ maxBytes
            rw [hnl]; omega
          · show (numR (upsOf (x.take i))).length + 1 ≤ maxBytes
            rw [hnl]; omega
          have hap := numR_take hix
          conv => whnf
          refine ⟨setH ⟨nx, la, l⟩ x (i + 1), [], by unfold setH; rw [← hap]; rfl, rfl, ?_, rfl⟩
          intro id b hb
          have hb := List.mem_of_getElem? hb
          simp only [setH, List.mem_cons, Option.some.injEq, List.not_mem_nil, or_false] at hb
          rcases hb with rfl | rfl | rfl | rfl
          · exact .inr (.free (tagsC_free' _))
          · exact .inr (zblk_bw _)
          · exact .inr (.cells _ _ _ (.cons (.dat _ _ _) .nil))
          · exact .inr (.cells _ _ _ (.cons (.dat _ _ _) .nil))
        · rintro H' rfl
          have hxx : x.take (upR x).length = x := by simp [upR]
          have hcc := concat2_ct G (l.take 0) (l.drop b) (by simp; omega)
          conv => whnf
          intro hw5
          refine wpc_draw2 12 (by rfl) (by decide) (by decide) hw5 ?_
          conv => whnf
          have hlo2 : List.drop (Int.toNat 0) (List.take (Int.toNat (0 : Int)) (tagR l)) = tagR (l.take 0) := by rw [hlo]; simp
          have hhi2 : List.drop (Int.toNat (b : Int)) (List.take (Int.toNat ((tagR l).length : Int)) (tagR l)) = tagR (l.drop b) := by rw [hhi]; simp
          refine ⟨⟨.inr rfl, Int.le_refl _, by omega, rfl, by show ((0 : Nat) : Int) ≤ ((tagR l).length : Int); rw [hvl]; omega⟩, ?_⟩
          rw [hlo2]
          conv => whnf
          refine ⟨⟨.inr rfl, by omega, by first | exact Int.le_refl _ | omega | (show ((b : Nat) : Int) ≤ ((tagR l).length : Int); rw [hvl]; omega), Int.le_refl _⟩, ?_⟩
          rw [hhi2]
          conv => whnf
          refine ⟨_, fun _ _ => ccw_ct hcc _, ?_⟩
          conv => whnf
          intro hw6
          refine wpc_drawG2 [2] [] [(1, 2)] (by rfl) (by decide) (by decide) hw6 ?_
          conv => whnf
          refine ⟨.tup [.agg (tagsC ⟨nx, la, l.take 0 ++ l.drop b⟩), .dat 1 (numR (upsOf x)) .no, .int .i64 0], ?_, fr _ _ _, ?_⟩
          · refine VW.tupL (.cons (.free (.agg _ (tagsC_free' ⟨nx, la, l.take 0 ++ l.drop b⟩))) (.cons ?_ (.cons (.im _) .nil)))
            rw [hxx]
            exact .no _ _ _
          · exact hres
end Go.Abs.Sig

/-! LC7 -/
namespace Go.Abs.Sig
open Go.RowKit Go.Abs
set_option linter.unusedSimpArgs false
set_option linter.unusedVariables false
set_option maxRecDepth 8000
attribute [local irreducible] StCall StYield WPc Weak IterOf Lp2

/-- Settle some: with what is told the broker. -/
def wSettle (l : LeaseL) (c : Cm) (many : Bool) : LeaseL × Cm × Int :=
  ({ l with t := (setL l.t (argOf c.1 0).1 many).1 }, if (setL l.t (argOf c.1 0).1 many).2.2 = 0 then withC c 0 (((setL l.t (argOf c.1 0).1 many).2.1.getLast?).getD 0, []) else c, (setL l.t (argOf c.1 0).1 many).2.2)
theorem wsettle_ct (G : Nat → Option (List V)) (H : Heap) (hH : H.all noClsB = true) (k : Nat) (l : LeaseL) (c : Cm) (many : Bool) (hk : H[k]? = some (wkB l c (.dat 0 [] .tight) 0)) (hl : l.t.l.length * 16 ≤ maxBytes) (hr : Rising l.t.l) (hb : c.1.2.2.length * 24 ≤ maxBytes)
    (hne : (setL l.t (argOf c.1 0).1 many).2.2 = 0 → (setL l.t (argOf c.1 0).1 many).2.1 ≠ []) (hlen : (setL l.t (argOf c.1 0).1 many).2.1.length ≤ maxBytes) :
    Call2 Go.Proofs.Tryz.prog G 91 [.ptr k 0, .bool many] H fun r H' => H' = H.set k (wkB (wSettle l c many).1 (wSettle l c many).2.1 (.dat 0 [] .tight) (wSettle l c many).2.2) ∧ r = .tup [] := by
  have hkl := lt_of_get hk
  have hn := fun X => num_ct G (H ++ X) k l c _ 0 (get_app hk) 0
  unfold wSettle
  generalize (argOf c.1 0).1 = m at hn hne hlen ⊢
  have hs := settle_ct G l.t m many hl hr
  generalize setL l.t m many = u at hs hne hlen ⊢
  obtain ⟨us, uu, ue⟩ := u
  obtain ⟨who, t, s, nn, tx, gets, most⟩ := l
  refine Call2.cutW ?_
  refine stCall2 Go.Proofs.Tryz.func91 rfl (by decide) ?_
  conv => whnf
  intro hw
  refine wpc_drawG2 [13, 14] [] [] (by rfl) (by decide) (by decide) hw ?_
  conv => whnf
  rw [hk]
  conv => whnf
  refine ⟨_, fun X _ => hn X, ?_⟩
  conv => whnf
  refine ⟨_, fun X _ => hs _, ?_⟩
  iterate 2 (conv => whnf; try simp only [List.append_assoc, List.cons_append, List.nil_append, List.length_append, List.length_cons, List.length_nil, Nat.zero_add, Nat.add_assoc, Nat.reduceAdd, ga0, ga1, ga2, ga3, ga4, ga5, sa0, sa1, sa2, sa3, sa4, sa5, S2.setH_H, List.all_cons, List.all_nil, isDefd, nodupB, List.any_nil, Bool.and_true, Bool.not_false, List.foldl_cons, List.foldl_nil])
  refine grd_intro (dqOkL_of (all_app hH rfl) (all_app hH rfl)) ?_
  iterate 3 (conv => whnf; try simp only [List.append_assoc, List.cons_append, List.nil_append, List.length_append, List.length_cons, List.length_nil, Nat.zero_add, Nat.add_assoc, Nat.reduceAdd, ga0, ga1, ga2, ga3, ga4, ga5, sa0, sa1, sa2, sa3, sa4, sa5, S2.setH_H, List.all_cons, List.all_nil, isDefd, nodupB, List.any_nil, Bool.and_true, Bool.not_false, List.foldl_cons, List.foldl_nil])
  rw [get_app hk]
  iterate 2 (conv => whnf; try simp only [List.append_assoc, List.cons_append, List.nil_append, List.length_append, List.length_cons, List.length_nil, Nat.zero_add, Nat.add_assoc, Nat.reduceAdd, ga0, ga1, ga2, ga3, ga4, ga5, sa0, sa1, sa2, sa3, sa4, sa5, S2.setH_H, List.all_cons, List.all_nil, isDefd, nodupB, List.any_nil, Bool.and_true, Bool.not_false, List.foldl_cons, List.foldl_nil])
  have hkl2 : ∀ L : Heap, k < (H ++ L).length := fun L => by rw [List.length_append]; omega
  rw [set_get (hkl2 _)]
  iterate 2 (conv => whnf; try simp only [List.append_assoc, List.cons_append, List.nil_append, List.length_append, List.length_cons, List.length_nil, Nat.zero_add, Nat.add_assoc, Nat.reduceAdd, ga0, ga1, ga2, ga3, ga4, ga5, sa0, sa1, sa2, sa3, sa4, sa5, S2.setH_H, List.all_cons, List.all_nil, isDefd, nodupB, List.any_nil, Bool.and_true, Bool.not_false, List.foldl_cons, List.foldl_nil])
  by_cases h0 : ue = 0
  · refine br_t (show decide (ue = 0) = true from decide_eq_true h0) ?_
    have hul : (numR uu).length = uu.length := by simp [numR]
    have hu0 : uu ≠ [] := hne h0
    have hupos : 0 < uu.length := List.length_pos_iff.2 hu0
    have hlen : uu.length ≤ 140737488355328 := hlen
    have hwi : IntKind.i64.wrap (((numR uu).length : Int) - 1) = ((uu.length - 1 : Nat) : Int) := by rw [hul, wrap_i64 (by omega) (by omega)]; omega
    have hd0 : (true && true && decide ((0 : Int) ≤ ((uu.length - 1 : Nat) : Int))) = true := by simp
    have hg1 : (numR uu)[Int.toNat ((uu.length - 1 : Nat) : Int)]? = some [.int .u64 (uu[uu.length - 1]'(by omega))] := rowGet _ uu (uu.length - 1) (by omega)
    have hlast : (uu.getLast?).getD 0 = uu[uu.length - 1]'(by omega) := by rw [List.getLast?_eq_getElem?, List.getElem?_eq_getElem (by omega)]; rfl
    rw [if_pos h0, hlast]
    generalize uu[uu.length - 1]'(by omega) = x at hg1 ⊢
    iterate 2 (conv => whnf; try simp only [List.append_assoc, List.cons_append, List.nil_append, List.length_append, List.length_cons, List.length_nil, Nat.zero_add, Nat.add_assoc, Nat.reduceAdd, ga0, ga1, ga2, ga3, ga4, ga5, sa0, sa1, sa2, sa3, sa4, sa5, S2.setH_H, List.all_cons, List.all_nil, isDefd, nodupB, List.any_nil, Bool.and_true, Bool.not_false, List.foldl_cons, List.foldl_nil])
    rw [hwi]
    refine grd_intro hd0 (optK_intro hg1 ?_)
    iterate 2 (conv => whnf; try simp only [List.append_assoc, List.cons_append, List.nil_append, List.length_append, List.length_cons, List.length_nil, Nat.zero_add, Nat.add_assoc, Nat.reduceAdd, ga0, ga1, ga2, ga3, ga4, ga5, sa0, sa1, sa2, sa3, sa4, sa5, S2.setH_H, List.all_cons, List.all_nil, isDefd, nodupB, List.any_nil, Bool.and_true, Bool.not_false, List.foldl_cons, List.foldl_nil])
    have hw2 := fun (H2 : Heap) (h : H2[k]? = some (wkB ⟨who, us, s, nn, tx, gets, most⟩ c (.dat 0 [] .tight) ue)) => wwith_ct G H2 k ⟨who, us, s, nn, tx, gets, most⟩ c _ ue (fun n => .dat _ _ _) h 0 (x, []) hb
    refine Call2.mono (hw2 _ (by rw [List.set_set, List.getElem?_set_self (hkl2 _)]; rfl)) fun r0 H0 h => ?_
    obtain ⟨h1, h2⟩ := h
    rw [h1, h2]
    clear h1 h2 r0 H0
    iterate 2 (conv => whnf; try simp only [List.append_assoc, List.cons_append, List.nil_append, List.length_append, List.length_cons, List.length_nil, Nat.zero_add, Nat.add_assoc, Nat.reduceAdd, ga0, ga1, ga2, ga3, ga4, ga5, sa0, sa1, sa2, sa3, sa4, sa5, S2.setH_H, List.all_cons, List.all_nil, isDefd, nodupB, List.any_nil, Bool.and_true, Bool.not_false, List.foldl_cons, List.foldl_nil])
    refine ⟨.tup [], _, CutW.at hkl (x := wkB ⟨who, us, s, nn, tx, gets, most⟩ (withC c 0 (x, [])) (.dat 0 [] .tight) ue) ?_ (fun id h1 h2 => ?_) (wkB_bw _ _ _ _ _ (.dat _ _ _)), .free (.tup _ (by simp)), rfl, rfl⟩
    · rw [List.set_set, List.set_set, List.getElem?_set_self (hkl2 _)]
    · rw [List.set_set, List.set_set, List.getElem?_set_ne (fun h => h1 h.symm), List.getElem?_append_left h2]
  · refine br_f (show decide (ue = 0) = false from decide_eq_false h0) ?_
    rw [if_neg h0]
    iterate 2 (conv => whnf; try simp only [List.append_assoc, List.cons_append, List.nil_append, List.length_append, List.length_cons, List.length_nil, Nat.zero_add, Nat.add_assoc, Nat.reduceAdd, ga0, ga1, ga2, ga3, ga4, ga5, sa0, sa1, sa2, sa3, sa4, sa5, S2.setH_H, List.all_cons, List.all_nil, isDefd, nodupB, List.any_nil, Bool.and_true, Bool.not_false, List.foldl_cons, List.foldl_nil])
    refine ⟨.tup [], _, CutW.at hkl (x := wkB ⟨who, us, s, nn, tx, gets, most⟩ c (.dat 0 [] .tight) ue) ?_ (fun id h1 h2 => ?_) (wkB_bw _ _ _ _ _ (.dat _ _ _)), .free (.tup _ (by simp)), rfl, rfl⟩
    · rw [List.set_set, List.getElem?_set_self (hkl2 _)]; rfl
    · rw [List.set_set, List.getElem?_set_ne (fun h => h1 h.symm), List.getElem?_append_left h2]
end Go.Abs.Sig

/-! LC8 -/
namespace Go.Abs.Sig
open Go.RowKit Go.Abs
set_option linter.unusedSimpArgs false
set_option linter.unusedVariables false
set_option maxRecDepth 8000
attribute [local irreducible] StCall StYield WPc Weak IterOf Lp2

theorem wreject_ct (G : Nat → Option (List V)) (H : Heap) (hH : H.all noClsB = true) (k : Nat) (l : LeaseL) (c : Cm) (hk : H[k]? = some (wkB l c (.dat 0 [] .tight) 0)) (hl : l.t.l.length * 16 ≤ maxBytes) (hr : Rising l.t.l) (hb : c.1.2.2.length * 24 ≤ maxBytes)
    (hne : (setL l.t (argOf c.1 0).1 false).2.2 = 0 → (setL l.t (argOf c.1 0).1 false).2.1 ≠ []) (hlen : (setL l.t (argOf c.1 0).1 false).2.1.length ≤ maxBytes) :
    Call2 Go.Proofs.Tryz.prog G 56 [.ptr k 0] H fun r H' => H' = H.set k (wkB (wSettle l c false).1 (wSettle l c false).2.1 (.dat 0 [] .tight) (wSettle l c false).2.2) ∧ r = .tup [] := by
  have hs := wsettle_ct G H hH k l c false hk hl hr hb hne hlen
  generalize wSettle l c false = u at hs ⊢
  refine stCall2 Go.Proofs.Tryz.func56 rfl (by decide) ?_
  conv => whnf
  refine Call2.mono (hs) fun r0 H0 h => ?_
  obtain ⟨h1, h2⟩ := h
  rw [h1, h2]
  clear h1 h2 r0 H0
  conv => whnf
  exact ⟨rfl, rfl⟩
theorem wack_ct (G : Nat → Option (List V)) (H : Heap) (hH : H.all noClsB = true) (k : Nat) (l : LeaseL) (c : Cm) (hk : H[k]? = some (wkB l c (.dat 0 [] .tight) 0)) (hl : l.t.l.length * 16 ≤ maxBytes) (hr : Rising l.t.l) (hb : c.1.2.2.length * 24 ≤ maxBytes)
    (hne : ∀ many, (setL l.t (argOf c.1 0).1 many).2.2 = 0 → (setL l.t (argOf c.1 0).1 many).2.1 ≠ []) (hlen : ∀ many, (setL l.t (argOf c.1 0).1 many).2.1.length ≤ maxBytes) :
    Call2 Go.Proofs.Tryz.prog G 55 [.ptr k 0] H fun r H' => H' = H.set k (wkB (wSettle l c (decide ((argOf c.1 1).1 ≠ 0))).1 (wSettle l c (decide ((argOf c.1 1).1 ≠ 0))).2.1 (.dat 0 [] .tight) (wSettle l c (decide ((argOf c.1 1).1 ≠ 0))).2.2) ∧ r = .tup [] := by
  have hs := wsettle_ct G H hH k l c (decide ((argOf c.1 1).1 ≠ 0)) hk hl hr hb (hne _) (hlen _)
  have hn := num_ct G H k l c _ 0 hk 1
  generalize wSettle l c (decide ((argOf c.1 1).1 ≠ 0)) = u at hs ⊢
  generalize (argOf c.1 1).1 = n at hs hn
  refine stCall2 Go.Proofs.Tryz.func55 rfl (by decide) ?_
  conv => whnf
  refine Call2.mono (hn) fun r0 H0 h => ?_
  obtain ⟨h1, h2⟩ := h
  rw [h1, h2]
  clear h1 h2 r0 H0
  conv => whnf
  refine Call2.mono (hs) fun r0 H0 h => ?_
  obtain ⟨h1, h2⟩ := h
  rw [h1, h2]
  clear h1 h2 r0 H0
  conv => whnf
  exact ⟨rfl, rfl⟩

/-! what settling answers: the plain part -/
theorem setL_len (t : TagsL) (m : Int) (many : Bool) : (setL t m many).2.1.length ≤ t.l.length := by
  unfold setL
  cases (setR t.l m many).2.2
  · simp
  · simp only [upsOf, List.length_map, List.length_drop, List.length_take]
    omega
theorem plL_lt {l : List (Int × Int)} {m : Int} (h : plL l m = true) : cntL l m < l.length := by
  unfold plL at h
  cases hx : l[cntL l m]? with
  | none => rw [hx] at h; cases h
  | some x => exact (List.getElem?_eq_some_iff.1 hx).1
theorem setR_ok {l : List (Int × Int)} {m : Int} {many : Bool} (h : (setR l m many).2.2 = true) : (setR l m many).1 < (setR l m many).2.1 ∧ (setR l m many).2.1 ≤ l.length := by
  unfold setR at h ⊢
  cases many with
  | false =>
    have := plL_lt (show plL l m = true from h)
    exact ⟨by show cntL l m < cntL l m + 1; omega, by show cntL l m + 1 ≤ _; omega⟩
  | true =>
    simp only at h ⊢
    split at h
    · rename_i h0
      rw [if_pos h0]
      exact ⟨of_decide_eq_true h, Nat.le_refl _⟩
    · rename_i h0
      rw [if_neg h0]
      have := plL_lt (show plL l m = true from h)
      exact ⟨by show 0 < cntL l m + 1; omega, by show cntL l m + 1 ≤ _; omega⟩
theorem setL_ne (t : TagsL) (m : Int) (many : Bool) (h : (setL t m many).2.2 = 0) : (setL t m many).2.1 ≠ [] := by
  unfold setL at h ⊢
  cases hb : (setR t.l m many).2.2 with
  | false => rw [hb] at h; exact absurd h (show ¬((13 : Int) = 0) by decide)
  | true =>
    obtain ⟨h1, h2⟩ := setR_ok hb
    intro h3
    have h4 := congrArg List.length h3
    simp only [upsOf, List.length_map, List.length_drop, List.length_take, List.length_nil] at h4
    omega
end Go.Abs.Sig

/-! LA1 -/
namespace Go.Abs.Sig
open Go.RowKit Go.Abs
set_option linter.unusedSimpArgs false
set_option linter.unusedVariables false
set_option maxRecDepth 8000
attribute [local irreducible] StCall StYield WPc Weak IterOf Lp2

def fnv (g : Nat) : V := .fn (.func g) [] []
def k2 (a b : Int) : V := .agg [.int .i64 a, .int .i64 b]
/-- What goes out: the functions by method. -/
def outsE : List (V × V) :=
  [(k2 60 20, fnv 51), (k2 60 30, fnv 52), (k2 60 40, fnv 53), (k2 60 70, fnv 54), (k2 60 80, fnv 55), (k2 60 120, fnv 55), (k2 60 90, fnv 56), (k2 60 100, fnv 57), (k2 60 110, fnv 57), (k2 85 10, fnv 58),
   (k2 90 10, fnv 59), (k2 90 20, fnv 60), (k2 90 30, fnv 60)]
theorem outs_ct (G : Nat → Option (List V)) (H : Heap) : Call2 Go.Proofs.Tryz.prog G 25 [] H fun r H' => ∃ es : List (V × V), es.Perm outsE ∧ r = .mp H.length ∧ H' = H ++ [some (.map es es.length)] := by
  refine stCall2 Go.Proofs.Tryz.func25 rfl (by decide) ?_
  conv => whnf
  intro hw
  refine wpc_drawM2 0 1 [2, 4, 6, 8, 10, 12, 14, 16, 18, 20, 22, 24, 26] (by rfl) (by kernel_rfl) (by kernel_rfl) hw ?_
  conv => whnf
  intro es hes
  conv => whnf
  exact ⟨es, hes, rfl, rfl⟩

end Go.Abs.Sig

/-! LC9 -/
namespace Go.Abs.Sig
open Go.RowKit Go.Abs
set_option linter.unusedSimpArgs false
set_option linter.unusedVariables false
set_option maxRecDepth 8000
attribute [local irreducible] StCall StYield WPc Weak IterOf Lp2

theorem wplace_ct (G : Nat → Option (List V)) (H : Heap) (k : Nat) (l : LeaseL) (c : Cm) (out : V) (e : Int) (hk : H[k]? = some (wkB l c out e)) :
    Call2 Go.Proofs.Tryz.prog G 26 [.ptr k 0] H fun r H' => H' = H ∧ r = k2 c.1.1 c.1.2.1 := by
  obtain ⟨⟨mc, mi, ml⟩, hd, bd⟩ := c
  refine Call2.inScope ⟨_, Go.Proofs.Tryz.func26, rfl, by decide⟩ fun hs => ?_
  refine Call2.cut ?_
  refine stCall2 Go.Proofs.Tryz.func26 rfl (by decide) ?_
  conv => whnf
  intro hw
  refine wpc_draw2 13 (by rfl) (by decide) (by decide) hw ?_
  conv => whnf
  rw [get_app hk]
  conv => whnf
  rw [get_app hk]
  iterate 3 (conv => whnf; try simp only [List.append_assoc, List.cons_append, List.nil_append, List.length_append, List.length_cons, List.length_nil, Nat.zero_add, Nat.add_assoc, Nat.reduceAdd, ga0, ga1, ga2, ga3, ga4, ga5, sa0, sa1, sa2, sa3, sa4, sa5, S2.setH_H, List.all_cons, List.all_nil, isDefd, nodupB, List.any_nil, Bool.and_true, Bool.not_false, List.foldl_cons, List.foldl_nil])
  have hf : (V.agg [.int .i64 mc, .int .i64 mi]).Free := .agg _ (by
    intro v hv
    simp only [List.mem_cons, List.not_mem_nil, or_false] at hv
    rcases hv with rfl | rfl
    · exact .im _
    · exact .im _)
  exact ⟨H, Cut.app hs rfl, .free hf, rfl, rfl⟩

end Go.Abs.Sig

/-! LF1 -/
namespace Go.Abs.Sig
open Go.RowKit Go.Abs
set_option linter.unusedSimpArgs false
set_option linter.unusedVariables false
set_option maxRecDepth 8000
attribute [local irreducible] StCall StYield WPc Weak IterOf Lp2

end Go.Abs.Sig

/-! LF2 -/
namespace Go.Abs.Sig
open Go.RowKit Go.Abs
set_option linter.unusedSimpArgs false
set_option linter.unusedVariables false
set_option maxRecDepth 8000
attribute [local irreducible] StCall StYield WPc Weak IterOf Lp2

theorem get_set_app {H L : Heap} {k : Nat} {b : Option Blk} (hk : k < H.length) (i : Nat) : ((H ++ L).set k b)[H.length + i]? = L[i]? := by
  rw [List.getElem?_set_ne (by omega), List.getElem?_append_right (by omega)]
  congr 1
  omega
theorem get_set_app0 {H L : Heap} {k : Nat} {b : Option Blk} (hk : k < H.length) : ((H ++ L).set k b)[H.length]? = L[0]? := get_set_app hk 0
end Go.Abs.Sig

/-! LK6 -/
namespace Go.Abs.Sig
open Go.RowKit Go.Abs
set_option linter.unusedSimpArgs false
set_option linter.unusedVariables false
set_option maxRecDepth 8000
attribute [local irreducible] StCall StYield WPc Weak IterOf Lp2

/-- A consumer gets its name. -/
def wConsume (l : LeaseL) (c : Cm) : LeaseL × Cm × Int :=
  ({ l with n := (nmAdd l.n (argOf c.1 2).2 (decide ((argOf c.1 4).1 ≠ 0)) l.most).1 }, withC c 2 (0, (nmAdd l.n (argOf c.1 2).2 (decide ((argOf c.1 4).1 ≠ 0)) l.most).2.1.2.1), (nmAdd l.n (argOf c.1 2).2 (decide ((argOf c.1 4).1 ≠ 0)) l.most).2.2)
theorem wconsume_ct (G : Nat → Option (List V)) (hG0 : G 0 = some powV) (hG1 : G 1 = some wV) (H : Heap) (hH : H.all noClsB = true) (k : Nat) (l : LeaseL) (c : Cm) (e : Int) (hk : H[k]? = some (wkB l c (.dat 0 [] .tight) e))
    (hw : l.n.who < 9223372036854775808) (hm0 : 0 ≤ l.n.made) (hm1 : l.n.made < 18446744073709551616) (hl : (l.n.l.length + 1) * 40 ≤ maxBytes) (hmine : (argOf c.1 2).2.length ≤ maxBytes) (hb : c.1.2.2.length * 24 ≤ maxBytes) :
    Call2 Go.Proofs.Tryz.prog G 51 [.ptr k 0] H fun r H' => H' = H.set k (wkB (wConsume l c).1 (wConsume l c).2.1 (.dat 0 [] .tight) (wConsume l c).2.2) ∧ r = .tup [] := by
  have hkl := lt_of_get hk
  have ht := fun X => text_ct G (H ++ X) k l c _ e (get_app hk) 2
  have hn := fun X => num_ct G (H ++ X) k l c _ e (get_app hk) 4
  unfold wConsume
  have hadd := fun X => add_ct G hG0 hG1 l.n (argOf c.1 2).2 (decide ((argOf c.1 4).1 ≠ 0)) l.most hw hm0 hm1 hl hmine X
  generalize nmAdd l.n (argOf c.1 2).2 (decide ((argOf c.1 4).1 ≠ 0)) l.most = u at hadd ⊢
  obtain ⟨un, ux, ue⟩ := u
  generalize (argOf c.1 2).2 = m at ht hadd
  generalize (argOf c.1 4).1 = f at hn hadd
  have hkl2 : ∀ L : Heap, k < (H ++ L).length := fun L => by rw [List.length_append]; omega
  obtain ⟨who, t, s, nn, tx, gets, most⟩ := l
  refine Call2.cutW ?_
  refine stCall2 Go.Proofs.Tryz.func51 rfl (by decide) ?_
  conv => whnf
  intro hw1
  refine wpc_drawP2 20 [22, 23] [] _ _ 31 85 _ _ (by rfl) (by decide) (by decide) rfl rfl rfl rfl rfl rfl rfl rfl (by decide) (by decide) hw1 ?_
  conv => whnf
  rw [hk]
  conv => whnf
  refine ⟨_, fun X _ => ht X, ?_⟩
  conv => whnf
  refine ⟨_, fun X _ => hn X, ?_⟩
  conv => whnf
  rw [hk]
  conv => whnf
  refine ⟨_, fun X _ => hadd _, ?_⟩
  conv => whnf
  refine ⟨?_, ?_⟩
  · iterate 3 (conv => whnf; try simp only [List.append_assoc, List.cons_append, List.nil_append, List.length_append, List.length_cons, List.length_nil, Nat.zero_add, Nat.add_assoc, Nat.reduceAdd, ga0, ga1, ga2, ga3, ga4, ga5, sa0, sa1, sa2, sa3, sa4, sa5, S2.setH_H, List.all_cons, List.all_nil, isDefd, nodupB, List.any_nil, Bool.and_true, Bool.not_false, List.foldl_cons, List.foldl_nil])
    refine grd_intro (dqOkL_of (all_app hH rfl) (all_app hH rfl)) ?_
    iterate 3 (conv => whnf; try simp only [List.append_assoc, List.cons_append, List.nil_append, List.length_append, List.length_cons, List.length_nil, Nat.zero_add, Nat.add_assoc, Nat.reduceAdd, ga0, ga1, ga2, ga3, ga4, ga5, sa0, sa1, sa2, sa3, sa4, sa5, S2.setH_H, List.all_cons, List.all_nil, isDefd, nodupB, List.any_nil, Bool.and_true, Bool.not_false, List.foldl_cons, List.foldl_nil])
    refine grd_intro (dqOkL_of (all_app hH rfl) (all_app hH rfl)) ?_
    iterate 3 (conv => whnf; try simp only [List.append_assoc, List.cons_append, List.nil_append, List.length_append, List.length_cons, List.length_nil, Nat.zero_add, Nat.add_assoc, Nat.reduceAdd, ga0, ga1, ga2, ga3, ga4, ga5, sa0, sa1, sa2, sa3, sa4, sa5, S2.setH_H, List.all_cons, List.all_nil, isDefd, nodupB, List.any_nil, Bool.and_true, Bool.not_false, List.foldl_cons, List.foldl_nil])
    rw [get_app hk]
    iterate 3 (conv => whnf; try simp only [List.append_assoc, List.cons_append, List.nil_append, List.length_append, List.length_cons, List.length_nil, Nat.zero_add, Nat.add_assoc, Nat.reduceAdd, ga0, ga1, ga2, ga3, ga4, ga5, sa0, sa1, sa2, sa3, sa4, sa5, S2.setH_H, List.all_cons, List.all_nil, isDefd, nodupB, List.any_nil, Bool.and_true, Bool.not_false, List.foldl_cons, List.foldl_nil])
    rw [set_get (hkl2 _)]
    iterate 3 (conv => whnf; try simp only [List.append_assoc, List.cons_append, List.nil_append, List.length_append, List.length_cons, List.length_nil, Nat.zero_add, Nat.add_assoc, Nat.reduceAdd, ga0, ga1, ga2, ga3, ga4, ga5, sa0, sa1, sa2, sa3, sa4, sa5, S2.setH_H, List.all_cons, List.all_nil, isDefd, nodupB, List.any_nil, Bool.and_true, Bool.not_false, List.foldl_cons, List.foldl_nil])
    rw [List.set_set]
    first | rw [get_set_app hkl 1] | rw [get_set_app0 hkl]
    conv => whnf
    refine Call2.mono (wwith_ct G _ k ⟨who, t, s, un, tx, gets, most⟩ c (.dat 0 [] .tight) ue (fun n => .dat _ _ _) (by rw [List.getElem?_set_self (hkl2 _)]; rfl) 2 (0, ux.2.1) hb) fun r0 H0 h => ?_
    obtain ⟨h1, h2⟩ := h
    rw [h1, h2]
    clear h1 h2 r0 H0
    conv => whnf
    refine ⟨.tup [], _, CutW.at hkl (x := wkB ⟨who, t, s, un, tx, gets, most⟩ (withC c 2 (0, ux.2.1)) (.dat 0 [] .tight) ue) ?_ (fun id h1 h2 => ?_) (wkB_bw _ _ _ _ _ (.dat _ _ _)), .free (.tup _ (by simp)), rfl, rfl⟩
    · rw [List.set_set, List.getElem?_set_self (hkl2 _)]
    · rw [List.set_set, List.getElem?_set_ne (fun h => h1 h.symm), List.getElem?_append_left h2]
  · iterate 3 (conv => whnf; try simp only [List.append_assoc, List.cons_append, List.nil_append, List.length_append, List.length_cons, List.length_nil, Nat.zero_add, Nat.add_assoc, Nat.reduceAdd, ga0, ga1, ga2, ga3, ga4, ga5, sa0, sa1, sa2, sa3, sa4, sa5, S2.setH_H, List.all_cons, List.all_nil, isDefd, nodupB, List.any_nil, Bool.and_true, Bool.not_false, List.foldl_cons, List.foldl_nil])
    refine grd_intro (dqOkL_of (all_app hH rfl) (all_app hH rfl)) ?_
    iterate 3 (conv => whnf; try simp only [List.append_assoc, List.cons_append, List.nil_append, List.length_append, List.length_cons, List.length_nil, Nat.zero_add, Nat.add_assoc, Nat.reduceAdd, ga0, ga1, ga2, ga3, ga4, ga5, sa0, sa1, sa2, sa3, sa4, sa5, S2.setH_H, List.all_cons, List.all_nil, isDefd, nodupB, List.any_nil, Bool.and_true, Bool.not_false, List.foldl_cons, List.foldl_nil])
    refine grd_intro (dqOkL_of (all_app hH rfl) (all_app hH rfl)) ?_
    iterate 3 (conv => whnf; try simp only [List.append_assoc, List.cons_append, List.nil_append, List.length_append, List.length_cons, List.length_nil, Nat.zero_add, Nat.add_assoc, Nat.reduceAdd, ga0, ga1, ga2, ga3, ga4, ga5, sa0, sa1, sa2, sa3, sa4, sa5, S2.setH_H, List.all_cons, List.all_nil, isDefd, nodupB, List.any_nil, Bool.and_true, Bool.not_false, List.foldl_cons, List.foldl_nil])
    rw [get_app hk]
    iterate 3 (conv => whnf; try simp only [List.append_assoc, List.cons_append, List.nil_append, List.length_append, List.length_cons, List.length_nil, Nat.zero_add, Nat.add_assoc, Nat.reduceAdd, ga0, ga1, ga2, ga3, ga4, ga5, sa0, sa1, sa2, sa3, sa4, sa5, S2.setH_H, List.all_cons, List.all_nil, isDefd, nodupB, List.any_nil, Bool.and_true, Bool.not_false, List.foldl_cons, List.foldl_nil])
    rw [set_get (hkl2 _)]
    iterate 3 (conv => whnf; try simp only [List.append_assoc, List.cons_append, List.nil_append, List.length_append, List.length_cons, List.length_nil, Nat.zero_add, Nat.add_assoc, Nat.reduceAdd, ga0, ga1, ga2, ga3, ga4, ga5, sa0, sa1, sa2, sa3, sa4, sa5, S2.setH_H, List.all_cons, List.all_nil, isDefd, nodupB, List.any_nil, Bool.and_true, Bool.not_false, List.foldl_cons, List.foldl_nil])
    rw [List.set_set]
    first | rw [get_set_app hkl 1] | rw [get_set_app0 hkl]
    conv => whnf
    refine Call2.mono (wwith_ct G _ k ⟨who, t, s, un, tx, gets, most⟩ c (.dat 0 [] .tight) ue (fun n => .dat _ _ _) (by rw [List.getElem?_set_self (hkl2 _)]; rfl) 2 (0, ux.2.1) hb) fun r0 H0 h => ?_
    obtain ⟨h1, h2⟩ := h
    rw [h1, h2]
    clear h1 h2 r0 H0
    conv => whnf
    refine ⟨.tup [], _, CutW.at hkl (x := wkB ⟨who, t, s, un, tx, gets, most⟩ (withC c 2 (0, ux.2.1)) (.dat 0 [] .tight) ue) ?_ (fun id h1 h2 => ?_) (wkB_bw _ _ _ _ _ (.dat _ _ _)), .free (.tup _ (by simp)), rfl, rfl⟩
    · rw [List.set_set, List.getElem?_set_self (hkl2 _)]
    · rw [List.set_set, List.getElem?_set_ne (fun h => h1 h.symm), List.getElem?_append_left h2]
end Go.Abs.Sig

/-! LK7 -/
namespace Go.Abs.Sig
open Go.RowKit Go.Abs
set_option linter.unusedSimpArgs false
set_option linter.unusedVariables false
set_option maxRecDepth 8000
attribute [local irreducible] StCall StYield WPc Weak IterOf Lp2

/-- A consumer is cancelled, or about to be. -/
def wCancel (l : LeaseL) (c : Cm) (e : Int) : LeaseL × Cm × Int := match toL l.n.l (argOf c.1 0).2 with
  | (x, false) => (l, c, 11)
  | (x, true) => ({ l with n := if (argOf c.1 1).1 ≠ 0 then (dropL l.n x.1).1 else l.n }, withC c 0 (0, x.2.1), e)
theorem wcancel_ct (G : Nat → Option (List V)) (H : Heap) (hH : H.all noClsB = true) (k : Nat) (l : LeaseL) (c : Cm) (e : Int) (hk : H[k]? = some (wkB l c (.dat 0 [] .tight) e))
    (hl : l.n.l.length * 40 ≤ maxBytes) (hb : c.1.2.2.length * 24 ≤ maxBytes) :
    Call2 Go.Proofs.Tryz.prog G 52 [.ptr k 0] H fun r H' => H' = H.set k (wkB (wCancel l c e).1 (wCancel l c e).2.1 (.dat 0 [] .tight) (wCancel l c e).2.2) ∧ r = .tup [] := by
  have hkl := lt_of_get hk
  have hmb : maxBytes = 140737488355328 := rfl
  have hmx : maxLen = 9223372036854775807 := rfl
  have ht := fun (X : Heap) => text_ct G (H ++ X) k l c _ e (get_app hk) 0
  have hn := fun (L : Heap) => num_ct G (H ++ L) k l c _ e (get_app hk) 1
  have hdr := fun x => drop_ct G l.n x hl
  unfold wCancel
  have hto := to_ct G l.n (argOf c.1 0).2 (by omega)
  generalize (argOf c.1 0).2 = m at ht hto ⊢
  generalize (argOf c.1 1).1 = f at hn ⊢
  generalize toL l.n.l m = u at hto ⊢
  obtain ⟨x, is⟩ := u
  have hkl2 : ∀ L : Heap, k < (H ++ L).length := fun L => by rw [List.length_append]; omega
  obtain ⟨who, t, s, nn, tx, gets, most⟩ := l
  refine Call2.cutW ?_
  refine stCall2 Go.Proofs.Tryz.func52 rfl (by decide) ?_
  conv => whnf
  intro hw1
  refine wpc_drawG2 [11, 12] [] [] (by rfl) (by decide) (by decide) hw1 ?_
  conv => whnf
  rw [hk]
  conv => whnf
  refine ⟨_, fun X _ => ht X, ?_⟩
  conv => whnf
  refine ⟨_, fun X _ => hto _, ?_⟩
  iterate 3 (conv => whnf; try simp only [List.append_assoc, List.cons_append, List.nil_append, List.length_append, List.length_cons, List.length_nil, Nat.zero_add, Nat.add_assoc, Nat.reduceAdd, ga0, ga1, ga2, ga3, ga4, ga5, sa0, sa1, sa2, sa3, sa4, sa5, S2.setH_H, List.all_cons, List.all_nil, isDefd, nodupB, List.any_nil, Bool.and_true, Bool.not_false, List.foldl_cons, List.foldl_nil])
  refine grd_intro (dqOkL_of (all_app hH rfl) (all_app hH rfl)) ?_
  iterate 3 (conv => whnf; try simp only [List.append_assoc, List.cons_append, List.nil_append, List.length_append, List.length_cons, List.length_nil, Nat.zero_add, Nat.add_assoc, Nat.reduceAdd, ga0, ga1, ga2, ga3, ga4, ga5, sa0, sa1, sa2, sa3, sa4, sa5, S2.setH_H, List.all_cons, List.all_nil, isDefd, nodupB, List.any_nil, Bool.and_true, Bool.not_false, List.foldl_cons, List.foldl_nil])
  cases is
  · iterate 2 (conv => whnf; try simp only [List.append_assoc, List.cons_append, List.nil_append, List.length_append, List.length_cons, List.length_nil, Nat.zero_add, Nat.add_assoc, Nat.reduceAdd, ga0, ga1, ga2, ga3, ga4, ga5, sa0, sa1, sa2, sa3, sa4, sa5, S2.setH_H, List.all_cons, List.all_nil, isDefd, nodupB, List.any_nil, Bool.and_true, Bool.not_false, List.foldl_cons, List.foldl_nil])
    rw [get_app hk]
    iterate 3 (conv => whnf; try simp only [List.append_assoc, List.cons_append, List.nil_append, List.length_append, List.length_cons, List.length_nil, Nat.zero_add, Nat.add_assoc, Nat.reduceAdd, ga0, ga1, ga2, ga3, ga4, ga5, sa0, sa1, sa2, sa3, sa4, sa5, S2.setH_H, List.all_cons, List.all_nil, isDefd, nodupB, List.any_nil, Bool.and_true, Bool.not_false, List.foldl_cons, List.foldl_nil])
    refine ⟨.tup [], _, CutW.at hkl (x := wkB ⟨who, t, s, nn, tx, gets, most⟩ c (.dat 0 [] .tight) 11) ?_ (fun id h1 h2 => ?_) (wkB_bw _ _ _ _ _ (.dat _ _ _)), .free (.tup _ (by simp)), rfl, rfl⟩
    · rw [List.getElem?_set_self (hkl2 _)]; rfl
    · rw [List.getElem?_set_ne (fun h => h1 h.symm), List.getElem?_append_left h2]
  · iterate 2 (conv => whnf; try simp only [List.append_assoc, List.cons_append, List.nil_append, List.length_append, List.length_cons, List.length_nil, Nat.zero_add, Nat.add_assoc, Nat.reduceAdd, ga0, ga1, ga2, ga3, ga4, ga5, sa0, sa1, sa2, sa3, sa4, sa5, S2.setH_H, List.all_cons, List.all_nil, isDefd, nodupB, List.any_nil, Bool.and_true, Bool.not_false, List.foldl_cons, List.foldl_nil])
    refine Call2.mono (hn _) fun r0 H0 h => ?_
    obtain ⟨h1, h2⟩ := h
    rw [h1, h2]
    clear h1 h2 r0 H0
    conv => whnf
    by_cases hf : f ≠ 0
    · refine br_t (show decide (f ≠ 0) = true from decide_eq_true hf) ?_
      rw [if_pos hf]
      have hd := hdr x.1
      generalize dropL nn x.1 = v at hd ⊢
      obtain ⟨vn, vb⟩ := v
      iterate 3 (conv => whnf; try simp only [List.append_assoc, List.cons_append, List.nil_append, List.length_append, List.length_cons, List.length_nil, Nat.zero_add, Nat.add_assoc, Nat.reduceAdd, ga0, ga1, ga2, ga3, ga4, ga5, sa0, sa1, sa2, sa3, sa4, sa5, S2.setH_H, List.all_cons, List.all_nil, isDefd, nodupB, List.any_nil, Bool.and_true, Bool.not_false, List.foldl_cons, List.foldl_nil])
      intro hw2
      refine wpc_drawG2 [15] [] [] (by rfl) (by decide) (by decide) hw2 ?_
      conv => whnf
      rw [get_app hk]
      iterate 3 (conv => whnf; try simp only [List.append_assoc, List.cons_append, List.nil_append, List.length_append, List.length_cons, List.length_nil, Nat.zero_add, Nat.add_assoc, Nat.reduceAdd, ga0, ga1, ga2, ga3, ga4, ga5, sa0, sa1, sa2, sa3, sa4, sa5, S2.setH_H, List.all_cons, List.all_nil, isDefd, nodupB, List.any_nil, Bool.and_true, Bool.not_false, List.foldl_cons, List.foldl_nil])
      rw [ga0]
      conv => whnf
      refine ⟨_, fun X _ => hd _, ?_⟩
      iterate 3 (conv => whnf; try simp only [List.append_assoc, List.cons_append, List.nil_append, List.length_append, List.length_cons, List.length_nil, Nat.zero_add, Nat.add_assoc, Nat.reduceAdd, ga0, ga1, ga2, ga3, ga4, ga5, sa0, sa1, sa2, sa3, sa4, sa5, S2.setH_H, List.all_cons, List.all_nil, isDefd, nodupB, List.any_nil, Bool.and_true, Bool.not_false, List.foldl_cons, List.foldl_nil])
      rw [get_app hk]
      iterate 3 (conv => whnf; try simp only [List.append_assoc, List.cons_append, List.nil_append, List.length_append, List.length_cons, List.length_nil, Nat.zero_add, Nat.add_assoc, Nat.reduceAdd, ga0, ga1, ga2, ga3, ga4, ga5, sa0, sa1, sa2, sa3, sa4, sa5, S2.setH_H, List.all_cons, List.all_nil, isDefd, nodupB, List.any_nil, Bool.and_true, Bool.not_false, List.foldl_cons, List.foldl_nil])
      refine grd_intro (dqOkL_of (all_app hH rfl) (all_set (all_app hH rfl) rfl)) ?_
      conv => whnf
      rw [get_set_app0 hkl]
      conv => whnf
      refine Call2.mono (wwith_ct G _ k ⟨who, t, s, vn, tx, gets, most⟩ c (.dat 0 [] .tight) e (fun n => .dat _ _ _) (by rw [List.getElem?_set_self (hkl2 _)]; rfl) 0 (0, x.2.1) hb) fun r0 H0 h => ?_
      obtain ⟨h1, h2⟩ := h
      rw [h1, h2]
      clear h1 h2 r0 H0
      conv => whnf
      refine ⟨.tup [], _, CutW.at hkl (x := wkB ⟨who, t, s, vn, tx, gets, most⟩ (withC c 0 (0, x.2.1)) (.dat 0 [] .tight) e) ?_ (fun id h1 h2 => ?_) (wkB_bw _ _ _ _ _ (.dat _ _ _)), .free (.tup _ (by simp)), rfl, rfl⟩
      · rw [List.set_set, List.getElem?_set_self (hkl2 _)]
      · rw [List.set_set, List.getElem?_set_ne (fun h => h1 h.symm), List.getElem?_append_left h2]
    · refine br_f (show decide (f ≠ 0) = false from decide_eq_false hf) ?_
      rw [if_neg hf]
      iterate 3 (conv => whnf; try simp only [List.append_assoc, List.cons_append, List.nil_append, List.length_append, List.length_cons, List.length_nil, Nat.zero_add, Nat.add_assoc, Nat.reduceAdd, ga0, ga1, ga2, ga3, ga4, ga5, sa0, sa1, sa2, sa3, sa4, sa5, S2.setH_H, List.all_cons, List.all_nil, isDefd, nodupB, List.any_nil, Bool.and_true, Bool.not_false, List.foldl_cons, List.foldl_nil])
      refine Call2.mono (wwith_ct G _ k ⟨who, t, s, nn, tx, gets, most⟩ c (.dat 0 [] .tight) e (fun n => .dat _ _ _) (get_app hk) 0 (0, x.2.1) hb) fun r0 H0 h => ?_
      obtain ⟨h1, h2⟩ := h
      rw [h1, h2]
      clear h1 h2 r0 H0
      conv => whnf
      refine ⟨.tup [], _, CutW.at hkl (x := wkB ⟨who, t, s, nn, tx, gets, most⟩ (withC c 0 (0, x.2.1)) (.dat 0 [] .tight) e) ?_ (fun id h1 h2 => ?_) (wkB_bw _ _ _ _ _ (.dat _ _ _)), .free (.tup _ (by simp)), rfl, rfl⟩
      · rw [List.getElem?_set_self (hkl2 _)]
      · rw [List.getElem?_set_ne (fun h => h1 h.symm), List.getElem?_append_left h2]
end Go.Abs.Sig

/-! LK8 -/
namespace Go.Abs.Sig
open Go.RowKit Go.Abs
set_option linter.unusedSimpArgs false
set_option linter.unusedVariables false
set_option maxRecDepth 8000
attribute [local irreducible] StCall StYield WPc Weak IterOf Lp2

/-- What a lease and a command are, of which Out is asked. -/
structure OutOk (l : LeaseL) (c : Cm) : Prop where
  who : l.n.who < 9223372036854775808
  made0 : 0 ≤ l.n.made
  made1 : l.n.made < 18446744073709551616
  nl : (l.n.l.length + 1) * 40 ≤ maxBytes
  tl : (l.t.l.length + 1) * 16 ≤ maxBytes
  rise : Rising l.t.l
  sl : (l.s.l.length + 1) * 8 ≤ maxBytes
  gl : l.gets.length + 1 ≤ maxBytes
  cl : c.1.2.2.length * 24 ≤ maxBytes
  cs : CmS c

/-- What each command does. -/
def actE (g : Nat) (l : LeaseL) (c : Cm) : LeaseL × Cm × Int :=
  if g = 51 then wConsume l c
  else if g = 52 then wCancel l c 0
  else if g = 53 then ((wPublish l).1, c, (wPublish l).2)
  else if g = 54 then ((wGet l (argOf c.1 2).1 0).1, c, (wGet l (argOf c.1 2).1 0).2)
  else if g = 55 then wSettle l c (decide ((argOf c.1 1).1 ≠ 0))
  else if g = 56 then wSettle l c false
  else if g = 57 then (wRecover l, c, 0)
  else if g = 58 then ((wConfirm l).1, c, (wConfirm l).2)
  else if g = 59 then ((wBegin l 0).1, c, (wBegin l 0).2)
  else (l, c, wEnd l 0)
theorem argOf_len {c : Cm} (h : CmS c) (i : Int) : (argOf c.1 i).2.length ≤ maxBytes := by
  unfold argOf
  split
  · exact Nat.zero_le _
  · cases hg : c.1.2.2[i.toNat]? with
    | none => exact Nat.zero_le _
    | some v => exact h.1 v (List.mem_of_getElem? hg)
theorem act_ct (G : Nat → Option (List V)) (hG0 : G 0 = some powV) (hG1 : G 1 = some wV) (H : Heap) (hH : H.all noClsB = true) (k : Nat) (l : LeaseL) (c : Cm) (hk : H[k]? = some (wkB l c (.dat 0 [] .tight) 0)) (h : OutOk l c) :
    ∀ g : Nat, 51 ≤ g → g ≤ 60 → Call2 Go.Proofs.Tryz.prog G g [.ptr k 0] H fun r H' => H' = H.set k (wkB (actE g l c).1 (actE g l c).2.1 (.dat 0 [] .tight) (actE g l c).2.2) ∧ r = .tup [] := by
  have hmb : maxBytes = 140737488355328 := rfl
  have hl := h.tl
  have hlen : ∀ many, (setL l.t (argOf c.1 0).1 many).2.1.length ≤ maxBytes := fun many => by have := setL_len l.t (argOf c.1 0).1 many; omega
  intro g hg1 hg2
  have : g = 51 ∨ g = 52 ∨ g = 53 ∨ g = 54 ∨ g = 55 ∨ g = 56 ∨ g = 57 ∨ g = 58 ∨ g = 59 ∨ g = 60 := by omega
  rcases this with rfl | rfl | rfl | rfl | rfl | rfl | rfl | rfl | rfl | rfl
  · exact wconsume_ct G hG0 hG1 H hH k l c 0 hk h.who h.made0 h.made1 h.nl (argOf_len h.cs 2) h.cl
  · exact wcancel_ct G H hH k l c 0 hk (by have := h.nl; omega) h.cl
  · exact wpublish_ct G H hH k l c 0 hk h.sl
  · exact wget_ct G H hH k l c 0 hk h.gl
  · exact wack_ct G H hH k l c hk (by omega) h.rise h.cl (fun many => setL_ne _ _ _) hlen
  · exact wreject_ct G H hH k l c hk (by omega) h.rise h.cl (setL_ne _ _ _) (hlen _)
  · exact wrecover_ct G H k l c _ 0 (fun n => .dat _ _ _) hk
  · exact wconfirm_ct G H k l c _ 0 hk
  · exact wbegin_ct G H k l c _ 0 (fun n => .dat _ _ _) hk
  · exact wend_ct G H k l c _ 0 (fun n => .dat _ _ _) hk

def outs2 : List (Int × Int × Nat) := [(60, 20, 51), (60, 30, 52), (60, 40, 53), (60, 70, 54), (60, 80, 55), (60, 120, 55), (60, 90, 56), (60, 100, 57), (60, 110, 57), (85, 10, 58), (90, 10, 59), (90, 20, 60), (90, 30, 60)]
theorem outsE_eq : outsE = outs2.map fun x => (k2 x.1 x.2.1, fnv x.2.2) := rfl
theorem outs2_rng : ∀ x ∈ outs2, 51 ≤ x.2.2 ∧ x.2.2 ≤ 60 := by decide
theorem outs2_one : ∀ x ∈ outs2, ∀ y ∈ outs2, x.1 = y.1 → x.2.1 = y.2.1 → x = y := by decide
def outOf (a b : Int) : Option Nat := (outs2.find? fun x => decide (a = x.1) && decide (b = x.2.1)).map (·.2.2)
theorem outOf_some {a b : Int} {x : Int × Int × Nat} (hx : x ∈ outs2) (ha : a = x.1) (hb : b = x.2.1) : outOf a b = some x.2.2 := by
  unfold outOf
  cases hf : outs2.find? fun x => decide (a = x.1) && decide (b = x.2.1) with
  | none =>
    have := List.find?_eq_none.1 hf x hx
    simp [ha, hb] at this
  | some y =>
    have h1 := List.find?_some hf
    have h2 := List.mem_of_find?_eq_some hf
    simp only [Bool.and_eq_true, decide_eq_true_eq] at h1
    rw [outs2_one x hx y h2 (ha.symm.trans h1.1) (hb.symm.trans h1.2)]
    rfl
theorem outOf_none {a b : Int} (h : ∀ x ∈ outs2, ¬(a = x.1 ∧ b = x.2.1)) : outOf a b = none := by
  unfold outOf
  rw [List.find?_eq_none.2 fun x hx => by simpa using fun h1 h2 => h x hx ⟨h1, h2⟩]
  rfl
/-- A client's command, as the broker is told it. -/
def zCm : Cm := ((0, 0, []), zHd, [])
def actL (l : LeaseL) (c : Cm) : LeaseL × Cm × Int := match outOf c.1.1 c.1.2.1 with
  | some g => actE g l c
  | none => (l, c, 0)
def outL (l : LeaseL) (c : Cm) : LeaseL × Cm × Int :=
  if cRight c ≠ 0 then (l, zCm, cRight c)
  else if mayL c.1 1 = false then (l, zCm, 8)
  else if (actL l c).2.2 ≠ 0 then (l, zCm, (actL l c).2.2)
  else ((actL l c).1, (actL l c).2.1, 0)
theorem outR_free (l : LeaseL) (c : Cm) (e : Int) : (V.tup [.agg (leaseC l), .agg (ccells c), .int .i64 e]).Free := .tup _ (by
  intro v hv
  simp only [List.mem_cons, List.not_mem_nil, or_false] at hv
  rcases hv with rfl | rfl | rfl
  · exact .agg _ (leaseC_free' _)
  · exact ccells_free _
  · exact .im _)
def zcV : List V := [.int .i64 0, .int .i64 0, .dat 0 [] .tight, .int .i64 0, .int .u64 0, .int .u64 0, .dat 0 [] .tight, .str []]
theorem outZ_vw (n : Nat) (l : LeaseL) (e : Int) : VW n (.tup [.agg (leaseC l), .agg zcV, .int .i64 e]) (.tup [.agg (leaseC l), .agg (ccells zCm), .int .i64 e]) :=
  VW.tupL (.cons (.free (.agg _ (leaseC_free' _))) (.cons (VW.aggL (.cons (.im _) (.cons (.im _) (.cons vw_nil (.cons (.im _) (.cons (.im _) (.cons (.im _) (.cons vw_nil (.cons (.str _) .nil))))))))) (.cons (.im _) .nil)))
set_option maxHeartbeats 2000000 in
theorem out_ct (G : Nat → Option (List V)) (hG0 : G 0 = some powV) (hG1 : G 1 = some wV) (l : LeaseL) (c : Cm) (h : OutOk l c) (H : Heap) :
    Call2 Go.Proofs.Tryz.prog G 12 [.agg (leaseC l), .agg (ccells c)] H fun r H' => H' = H ∧ r = .tup [.agg (leaseC (outL l c).1), .agg (ccells (outL l c).2.1), .int .i64 (outL l c).2.2] := by
  refine Call2.free (fun x hx => by
    simp only [List.mem_cons, List.not_mem_nil, or_false] at hx
    rcases hx with rfl | rfl
    · exact .agg _ (leaseC_free' _)
    · exact ccells_free _) ?_ H
  refine Call2.weakR ?_
  have hcr := cright_ct G hG1 c h.cs
  have hmay := may_ct G c.1 1 (.inl rfl)
  unfold outL
  generalize cRight c = e0 at hcr ⊢
  generalize mayL c.1 1 = my at hmay ⊢
  refine stCall2 Go.Proofs.Tryz.func12 rfl (by decide) ?_
  conv => whnf
  refine Call2.mono (hcr _) fun r0 H0 h => ?_
  obtain ⟨h1, h2⟩ := h
  rw [h1, h2]
  clear h1 h2 r0 H0
  conv => whnf
  by_cases he : e0 = 0
  · refine br_t (show decide (e0 = 0) = true from decide_eq_true he) ?_
    subst he
    rw [if_neg (by simp)]
    conv => whnf
    refine Call2.mono (hmay _) fun r0 H0 h => ?_
    obtain ⟨h1, h2⟩ := h
    rw [h1, h2]
    clear h1 h2 r0 H0
    conv => whnf
    cases my
    · conv => whnf
      rw [if_pos rfl]
      exact ⟨_, outZ_vw _ l 8, outR_free l zCm 8, rfl⟩
    · rw [if_neg (by simp)]
      conv => whnf
      refine Call2.mono (outs_ct G _) fun r0 H0 hh => ?_
      obtain ⟨es, hp, h1, h2⟩ := hh
      rw [h1, h2]
      clear h1 h2 r0 H0
      conv => whnf
      refine Call2.mono (wplace_ct G _ 4 l c (.dat 0 [] .tight) 0 rfl) fun r0 H0 hh => ?_
      obtain ⟨h1, h2⟩ := hh
      rw [h1, h2]
      clear h1 h2 r0 H0
      conv => whnf
      refine find_any hp (fun x hx => ?_) (fun hno => ?_)
      · rw [outsE_eq] at hx
        obtain ⟨y, hy, rfl⟩ := List.mem_map.1 hx
        refine ⟨decide (c.1.1 = y.1) && decide (c.1.2.1 = y.2.1), rfl, fun hb nn => ?_⟩
        simp only [Bool.and_eq_true, decide_eq_true_eq] at hb
        have ha : actL l c = actE y.2.2 l c := by unfold actL; rw [outOf_some hy hb.1 hb.2]
        have hg := outs2_rng y hy
        rw [ha]
        have hact := fun H hH hk => act_ct G hG0 hG1 H hH 4 l c hk h y.2.2 hg.1 hg.2
        generalize actE y.2.2 l c = u at hact ⊢
        generalize y.2.2 = g at hact ⊢
        obtain ⟨ul, uc, ue⟩ := u
        conv => whnf
        refine Call2.mono (hact _ rfl rfl) fun r0 H0 hh => ?_
        obtain ⟨h1, h2⟩ := hh
        rw [h1, h2]
        clear h1 h2 r0 H0
        conv => whnf
        simp only
        by_cases hu : ue ≠ 0
        · refine br_t (show decide (ue ≠ 0) = true from decide_eq_true hu) ?_
          rw [if_pos hu]
          conv => whnf
          intro hw1
          refine wpc_drawG2 [6, 7] [] [(5, 6), (5, 7)] (by rfl) (by decide) (by decide) hw1 ?_
          conv => whnf
          exact ⟨_, outZ_vw _ l ue, outR_free l zCm ue, rfl⟩
        · refine br_f (show decide (ue ≠ 0) = false from decide_eq_false hu) ?_
          rw [if_neg hu]
          conv => whnf
          intro hw1
          refine wpc_drawG2 [8, 9] [] [(7, 8)] (by rfl) (by decide) (by decide) hw1 ?_
          conv => whnf
          exact ⟨_, .free (outR_free ul uc 0), outR_free ul uc 0, rfl⟩
      · have ha : actL l c = (l, c, 0) := by
          unfold actL
          rw [outOf_none fun x hx hh => by
            have h1 := hno (k2 x.1 x.2.1, fnv x.2.2) (by rw [outsE_eq]; exact List.mem_map.2 ⟨x, hx, rfl⟩)
            have h2 : keyEq (k2 c.1.1 c.1.2.1) (k2 x.1 x.2.1) = some (decide (c.1.1 = x.1) && decide (c.1.2.1 = x.2.1)) := rfl
            have h3 := h2.symm.trans h1
            rw [hh.1, hh.2] at h3
            simp at h3]
        rw [ha, if_neg (by simp)]
        conv => whnf
        intro hw1
        refine wpc_drawG2 [8, 9] [] [(7, 8)] (by rfl) (by decide) (by decide) hw1 ?_
        conv => whnf
        exact ⟨_, .free (outR_free l c 0), outR_free l c 0, rfl⟩
  · refine br_f (show decide (e0 = 0) = false from decide_eq_false he) ?_
    rw [if_pos he]
    conv => whnf
    refine br_t (show decide (e0 ≠ 0) = true from decide_eq_true he) ?_
    conv => whnf
    exact ⟨_, outZ_vw _ l e0, outR_free l zCm e0, rfl⟩
end Go.Abs.Sig

/-! LK9 -/
namespace Go.Abs.Sig
open Go.RowKit Go.Abs
set_option linter.unusedSimpArgs false
set_option linter.unusedVariables false
set_option maxRecDepth 8000
attribute [local irreducible] StCall StYield WPc Weak IterOf Lp2

/-! the document's example -/
def shC : Cm := ((60, 20, [(0, []), (0, [113]), (0, [120]), (0, []), (0, []), (0, []), (0, []), (0, [0, 0, 0, 0])]), zHd, [])
def shL : LeaseL := ⟨7, ⟨1, 0, []⟩, ⟨false, 0, 0, []⟩, ⟨7, 0, []⟩, false, [], 9⟩
theorem shC_right : cRight shC = 0 := by decide +kernel
theorem shC_may : mayL shC.1 1 = true := by decide +kernel
theorem sh_up : upL 7 [120] = ([55, 47, 120], 0) := by
  unfold upL upS
  rw [if_neg (by decide), if_neg (by simp), show (7 : Int).toNat = 7 from rfl, fig_small (by omega)]
  rfl
theorem sh_out : (outL shL shC).2.2 = 0 ∧ (outL shL shC).2.1.1.2.2 = [(0, []), (0, [113]), (0, [55, 47, 120]), (0, []), (0, []), (0, []), (0, []), (0, [0, 0, 0, 0])] := by
  have ha : actL shL shC = wConsume shL shC := rfl
  have hm : (argOf shC.1 2).2 = [120] := rfl
  have hn : nmAdd shL.n [120] (decide ((argOf shC.1 4).1 ≠ 0)) shL.most = (⟨7, 0, [([120], [55, 47, 120], false)]⟩, ([120], [55, 47, 120], false), 0) := by
    unfold nmAdd
    rw [if_neg (by decide), if_neg (by simp), if_neg (by decide)]
    unfold nmPut
    rw [show shL.n.who = 7 from rfl, sh_up]
    rfl
  have hw : wConsume shL shC = ({ shL with n := ⟨7, 0, [([120], [55, 47, 120], false)]⟩ }, withC shC 2 (0, [55, 47, 120]), 0) := by
    unfold wConsume
    rw [hm, hn]
  unfold outL
  rw [shC_right, shC_may, ha, hw, if_neg (by simp), if_neg (by simp), if_neg (by simp)]
  exact ⟨rfl, rfl⟩
theorem sh_ok : OutOk shL shC := by
  refine ⟨by decide, by decide, by decide, by decide, by decide, by simp [Rising, shL], by decide, by decide, by decide, ⟨?_, ?_, by decide, by decide⟩⟩
  · intro v hv
    simp only [shC, List.mem_cons, List.not_mem_nil, or_false] at hv
    rcases hv with rfl | rfl | rfl | rfl | rfl | rfl | rfl | rfl <;> decide
  · intro v hv
    simp [shC, zHd] at hv
theorem shown18_ct (G : Nat → Option (List V)) (hG0 : G 0 = some powV) (hG1 : G 1 = some wV) (H : Heap) : Call2 Go.Proofs.Tryz.prog G 10 [] H fun r H' => H' = H ∧ r = .bool true := by
  refine Call2.free (fun x hx => by cases hx) ?_ H
  have hnew := new_ct G 7 9
  have hn : newL 7 9 = (shL, 0) := rfl
  rw [hn] at hnew
  have hout := out_ct G hG0 hG1 shL shC sh_ok
  obtain ⟨h1, h2⟩ := sh_out
  generalize outL shL shC = u at hout h1 h2
  obtain ⟨ul, ⟨⟨ua, ub, uv⟩, uh, ubd⟩, ue⟩ := u
  simp only at h1 h2
  subst h1
  subst h2
  refine stCall2 Go.Proofs.Tryz.func10 rfl (by decide) ?_
  conv => whnf
  refine Call2.mono (hnew _) fun r0 H0 h => ?_
  obtain ⟨h1, h2⟩ := h
  rw [h1, h2]
  clear h1 h2 r0 H0
  conv => whnf
  refine Call2.weakA (args' := [.agg (leaseC shL), .agg (ccells shC)]) ?_ ?_
  · have hv : ∀ n, VWs n [.agg (leaseC shL), .agg [.int .i64 60, .int .i64 20, .dat 2 (vals shC.1.2.2) .tight, .int .i64 0, .int .u64 0, .int .u64 0, .dat 0 [] .tight, .str []]] [.agg (leaseC shL), .agg (ccells shC)] := fun n =>
      .cons (.free (.agg _ (leaseC_free' _))) (.cons (VW.aggL (.cons (.im _) (.cons (.im _) (.cons (.no _ _ _) (.cons (.im _) (.cons (.im _) (.cons (.im _) (.cons vw_nil (.cons (.str _) .nil))))))))) .nil)
    exact hv _
  refine Call2.mono (hout _) fun r0 H0 h => ?_
  obtain ⟨h1, h2⟩ := h
  rw [h1, h2]
  clear h1 h2 r0 H0
  conv => whnf
  exact ⟨.im _, rfl⟩
end Go.Abs.Sig

/-! LSH1 -/
namespace Go.Abs.Sig
open Go.RowKit Go.Abs Go.ChangeShapes Go.WideShapes Go.ChangeAt
set_option linter.unusedSimpArgs false
set_option linter.unusedVariables false
set_option maxRecDepth 8000

theorem reach_le : reachBytes ≤ maxBytes := by decide

theorem sh_int {n : Nat} {t : TypeId} {k : IntKind} {vs : List V} (hu : Program.underlying Go.Proofs.Tryz.prog t = some (.int k)) (h : Sh Go.Proofs.Tryz.prog (n + 1) t vs) : ∃ x, vs = [.im (.int k x)] ∧ (Lit.int k x).wf = true := by
  unfold Sh at h
  rw [hu] at h
  exact h
theorem sh_bool {n : Nat} {t : TypeId} {vs : List V} (hu : Program.underlying Go.Proofs.Tryz.prog t = some .bool) (h : Sh Go.Proofs.Tryz.prog (n + 1) t vs) : ∃ b, vs = [.im (.bool b)] := by
  unfold Sh at h
  rw [hu] at h
  exact h
theorem sh_str {n : Nat} {t : TypeId} {vs : List V} (hu : Program.underlying Go.Proofs.Tryz.prog t = some .string) (h : Sh Go.Proofs.Tryz.prog (n + 1) t vs) : ∃ l : List UInt8, vs = [.str l] ∧ l.length ≤ maxBytes := by
  unfold Sh at h
  rw [hu] at h
  obtain ⟨l, h1, h2⟩ := h
  exact ⟨l, h1, Nat.le_trans h2 reach_le⟩
theorem sh_slice {n : Nat} {t e : TypeId} {vs : List V} (hu : Program.underlying Go.Proofs.Tryz.prog t = some (.slice e)) (h : Sh Go.Proofs.Tryz.prog (n + 1) t vs) : ∃ rows, vs = [.dat (Program.cellsOf Go.Proofs.Tryz.prog e) rows .no] ∧ rows.length * Program.bytesOf Go.Proofs.Tryz.prog e ≤ reachBytes ∧ ∀ r ∈ rows, Sh Go.Proofs.Tryz.prog n e r := by
  unfold Sh at h
  rw [hu] at h
  exact h
theorem sh_struct {n : Nat} {t : TypeId} {fs : Array Field} {vs : List V} (hu : Program.underlying Go.Proofs.Tryz.prog t = some (.struct fs)) (h : Sh Go.Proofs.Tryz.prog (n + 1) t vs) : ShFs (Sh Go.Proofs.Tryz.prog n) fs.toList vs := by
  unfold Sh at h
  rw [hu] at h
  exact h

theorem wf_u64 {n : Int} (h : (Lit.int .u64 n).wf = true) : 0 ≤ n ∧ n ≤ 18446744073709551615 := by
  simp only [Lit.wf, Bool.and_eq_true, decide_eq_true_eq] at h
  exact h

/-- Rows of a kind. -/
theorem rows_of {α : Type} {f : α → List V} {Q : α → Prop} : ∀ (rows : List (List V)), (∀ r ∈ rows, ∃ x, r = f x ∧ Q x) → ∃ l : List α, rows = l.map f ∧ ∀ x ∈ l, Q x
  | [], _ => ⟨[], rfl, fun x h => by cases h⟩
  | r :: rows, h => by
    obtain ⟨x, rfl, hx⟩ := h r (by simp)
    obtain ⟨l, rfl, hl⟩ := rows_of rows fun r hr => h r (by simp [hr])
    exact ⟨x :: l, rfl, fun y hy => by
      rcases List.mem_cons.1 hy with rfl | hy
      · exact hx
      · exact hl y hy⟩

/-- A value that may be there. -/
def OkVal (v : Val') : Prop := (0 ≤ v.1 ∧ v.1 ≤ 18446744073709551615) ∧ v.2.length ≤ maxBytes
def OkMet (m : Met) : Prop := (-9223372036854775808 ≤ m.1 ∧ m.1 ≤ 9223372036854775807) ∧ (-9223372036854775808 ≤ m.2.1 ∧ m.2.1 ≤ 9223372036854775807) ∧ m.2.2.length * 24 ≤ reachBytes ∧ ∀ v ∈ m.2.2, OkVal v

theorem sh_val {n : Nat} {vs : List V} (h : Sh Go.Proofs.Tryz.prog (n + 2) 50 vs) : ∃ v : Val', vs = [.int .u64 v.1, .str v.2] ∧ OkVal v := by
  obtain ⟨p, q, h1, ⟨p', q', h2, rfl, rfl⟩, rfl⟩ := sh_struct Go.Proofs.Tryz.underlying50 h
  obtain ⟨x, rfl, hx⟩ := sh_int Go.Proofs.Tryz.underlying22 h1
  obtain ⟨l, rfl, hl⟩ := sh_str Go.Proofs.Tryz.underlying9 h2
  exact ⟨(x, l), rfl, wf_u64 hx, hl⟩

theorem sh_met {n : Nat} {vs : List V} (h : Sh Go.Proofs.Tryz.prog (n + 4) 37 vs) : ∃ m : Met, vs = mcells m ∧ OkMet m := by
  obtain ⟨p, q, h1, ⟨p', q', h2, ⟨p'', q'', h3, rfl, rfl⟩, rfl⟩, rfl⟩ := sh_struct Go.Proofs.Tryz.underlying37 h
  obtain ⟨a, rfl, ha⟩ := sh_int Go.Proofs.Tryz.underlying3 h1
  obtain ⟨b, rfl, hb⟩ := sh_int Go.Proofs.Tryz.underlying3 h2
  obtain ⟨rows, rfl, hr, he⟩ := sh_slice Go.Proofs.Tryz.underlying35 h3
  obtain ⟨l, rfl, hl⟩ := rows_of (f := fun v : Val' => [.int .u64 v.1, .str v.2]) rows fun r hr => sh_val (he r hr)
  have hc : Program.cellsOf Go.Proofs.Tryz.prog 50 = 2 := by kernel_rfl
  have hby : Program.bytesOf Go.Proofs.Tryz.prog 50 = 24 := by kernel_rfl
  rw [hc]
  rw [hby, List.length_map] at hr
  exact ⟨(a, b, l), rfl, wf_i64 ha, wf_i64 hb, hr, hl⟩

theorem shv_int {n : Nat} {x : V} (h : ShV Go.Proofs.Tryz.prog (n + 1) 3 x) : ∃ i : Int, x = .int .i64 i ∧ (-9223372036854775808 ≤ i ∧ i ≤ 9223372036854775807) := by
  have ha : aggT Go.Proofs.Tryz.prog 3 = false := by kernel_rfl
  unfold ShV at h
  rw [ha] at h
  obtain ⟨i, h1, h2⟩ := sh_int Go.Proofs.Tryz.underlying3 h
  rw [List.cons.injEq] at h1
  exact ⟨i, h1.1, wf_i64 h2⟩
end Go.Abs.Sig

/-! LL1 -/
namespace Go.Abs.Sig
open Go.RowKit Go.Abs
set_option linter.unusedSimpArgs false
set_option linter.unusedVariables false
set_option maxRecDepth 8000
attribute [local irreducible] StCall StYield WPc Weak IterOf Lp2

/-! plain facts: a right lease -/
theorem tAt_of {t : TagsL} (h : tRight t = true) {i : Nat} (hi : i < t.l.length) : 1 ≤ t.l[i].1 ∧ t.l[i].1 < t.nx ∧ 1 ≤ t.l[i].2 ∧ t.l[i].2 ≤ t.la ∧ (∀ (h0 : 0 < i), (t.l[i - 1]'(by omega)).1 < t.l[i].1 ∧ (t.l[i - 1]'(by omega)).2 < t.l[i].2) := by
  unfold tRight at h
  rw [Bool.and_eq_true, List.all_eq_true] at h
  have h1 := h.2 i (List.mem_range.2 hi)
  unfold tAt at h1
  rw [List.getElem?_eq_getElem hi] at h1
  simp only [Bool.and_eq_true, decide_eq_true_eq, Bool.or_eq_true] at h1
  obtain ⟨⟨⟨⟨h1, h2⟩, h3⟩, h4⟩, h5⟩ := h1
  refine ⟨h1, h2, h3, h4, fun h0 => ?_⟩
  rcases h5 with h5 | h5
  · omega
  · rw [List.getElem?_eq_getElem (show i - 1 < t.l.length by omega)] at h5
    simpa using h5
theorem rising2_of {t : TagsL} (h : tRight t = true) : ∀ a b (hb : b < t.l.length) (hab : a < b), (t.l[a]'(by omega)).1 < t.l[b].1 ∧ (t.l[a]'(by omega)).2 < t.l[b].2 := by
  intro a b
  induction b with
  | zero => intro hb hab; omega
  | succ b ih =>
    intro hb hab
    have h1 := (tAt_of h hb).2.2.2.2 (by omega)
    simp only [Nat.add_sub_cancel] at h1
    rcases Nat.lt_or_ge a b with h2 | h2
    · have h3 := ih (by omega) h2
      exact ⟨by omega, by omega⟩
    · have : a = b := by omega
      subst this
      exact h1
theorem rising_of {t : TagsL} (h : tRight t = true) : Rising t.l := fun a b hb hab => (rising2_of h a b hb hab).1
theorem lRight_of {l : LeaseL} (h : lRight l = true) : 1 ≤ l.who ∧ 1 ≤ l.most ∧ l.most ≤ 1000 ∧ tRight l.t = true ∧ sRight l.s = true ∧ nRight l.n = true ∧ l.n.who = l.who ∧ l.s.off = 0 ∧
    (l.t.l.length : Int) ≤ l.most ∧ (l.s.l.length : Int) ≤ l.most ∧ (l.n.l.length : Int) ≤ l.most ∧ (l.gets.length : Int) ≤ l.most := by
  unfold lRight at h
  simp only [Bool.and_eq_true, decide_eq_true_eq] at h
  obtain ⟨⟨⟨⟨⟨⟨⟨⟨⟨⟨⟨h1, h2⟩, h3⟩, h4⟩, h5⟩, h6⟩, h7⟩, h8⟩, h9⟩, h10⟩, h11⟩, h12⟩ := h
  exact ⟨h1, h2, h3, h4, h5, h6, h7, h8, h9, h10, h11, h12⟩
theorem outOk_of {l : LeaseL} {c : Cm} (hs : LeaseS l) (hr : lRight l = true) (hc : CmS c) (hcl : c.1.2.2.length * 24 ≤ maxBytes) : OutOk l c := by
  obtain ⟨h1, h2, h3, h4, h5, h6, h7, h8, h9, h10, h11, h12⟩ := lRight_of hr
  have hmb : maxBytes = 140737488355328 := rfl
  exact ⟨hs.nwho.2, hs.made.1, by have := hs.made.2; omega, by omega, by omega, rising_of h4, by omega, by omega, hcl, hc⟩

/-! settled -/
theorem setL_ok {t : TagsL} {m : Int} {many : Bool} (h : (setL t m many).2.2 = 0) : ∃ a b, a < b ∧ b ≤ t.l.length ∧ (setL t m many).1 = { t with l := t.l.take a ++ t.l.drop b } ∧ (setL t m many).2.1 = upsOf ((t.l.take b).drop a) := by
  have hr := @setR_ok t.l m many
  unfold setL at h ⊢
  generalize setR t.l m many = u at h hr ⊢
  obtain ⟨a, b, r⟩ := u
  cases r
  · simp at h
  · exact ⟨a, b, (hr rfl).1, (hr rfl).2, rfl, rfl⟩
theorem last_ups {l : List (Int × Int)} {a b : Nat} (hab : a < b) (hb : b ≤ l.length) : ((upsOf ((l.take b).drop a)).getLast?).getD 0 = (l[b - 1]'(by omega)).2 := by
  have hl : (upsOf ((l.take b).drop a)).length = b - a := by
    unfold upsOf
    rw [List.length_map, List.length_drop, List.length_take]
    omega
  rw [List.getLast?_eq_getElem?, hl]
  unfold upsOf
  rw [List.getElem?_map, List.getElem?_drop, List.getElem?_take, if_pos (by omega), List.getElem?_eq_getElem (by omega)]
  have e : a + (b - a - 1) = b - 1 := by omega
  simp only [Option.map_some, Option.getD_some, e]
theorem mright_args {tb : Val' → Int} {m : Met} (h : mright tb m = 0) : m.2.2.length = (rowAt m.1 m.2.1).2.2.1.length := ((mright_zero tb m).1 h).2.1.symm
theorem cRight_args {c : Cm} (h : cRight c = 0) : c.1.2.2.length = (rowAt c.1.1 c.1.2.1).2.2.1.length := by
  unfold cRight at h
  split at h
  · contradiction
  · rename_i h1
    exact mright_args (tb := tbv) (by simpa using h1)
theorem out_lt {m : Met} {i : Int} (h0 : 0 ≤ i) (h : i < (m.2.2.length : Int)) : out m i = false := by
  unfold out
  simp only [Bool.or_eq_false_iff, decide_eq_false_iff_not]
  omega
theorem withC_args {c : Cm} {i : Nat} {v : Val'} (h : i < c.1.2.2.length) : withC c (i : Int) v = ((c.1.1, c.1.2.1, c.1.2.2.set i v), c.2) := by
  unfold withC withOf
  rw [out_lt (by omega) (by omega)]
  simp
/-- What Out does if all is well. -/
theorem outL_zero {l : LeaseL} {c : Cm} (h : (outL l c).2.2 = 0) : cRight c = 0 ∧ mayL c.1 1 = true ∧ (actL l c).2.2 = 0 ∧ outL l c = ((actL l c).1, (actL l c).2.1, 0) := by
  unfold outL at h ⊢
  by_cases h1 : cRight c ≠ 0
  · rw [if_pos h1] at h
    exact absurd h h1
  rw [if_neg h1] at h ⊢
  by_cases h2 : mayL c.1 1 = false
  · rw [if_pos h2] at h
    simp at h
  rw [if_neg h2] at h ⊢
  by_cases h3 : (actL l c).2.2 ≠ 0
  · rw [if_pos h3] at h
    exact absurd h h3
  rw [if_neg h3]
  exact ⟨by simpa using h1, by simpa using h2, by simpa using h3, rfl⟩
def settles (c : Cm) : Prop := c.1.1 = 60 ∧ (c.1.2.1 = 80 ∨ c.1.2.1 = 90 ∨ c.1.2.1 = 120)
theorem acks_law {l : LeaseL} {c : Cm} (hr : lRight l = true) (hs : settles c) (h : (outL l c).2.2 = 0) :
    ∃ v rest, (outL l c).2.1.1.2.2 = v :: rest ∧ (∃ x ∈ l.t.l, x.2 = v.1) ∧ (∀ x ∈ (outL l c).1.t.l, x.2 ≠ v.1) ∧ (outL l c).1.t.l.length < l.t.l.length ∧ (outL l c).1.t.nx = l.t.nx := by
  obtain ⟨h1, h2, h3, h4⟩ := outL_zero h
  rw [h4]
  have hlen := cRight_args h1
  have hact : ∃ many, actL l c = wSettle l c many := by
    obtain ⟨hc, hi⟩ := hs
    unfold actL
    rw [hc]
    rcases hi with hi | hi | hi <;> rw [hi]
    · exact ⟨_, rfl⟩
    · exact ⟨_, rfl⟩
    · exact ⟨_, rfl⟩
  have h1l : 1 ≤ c.1.2.2.length := by
    obtain ⟨hc, hi⟩ := hs
    rw [hlen, hc]
    rcases hi with hi | hi | hi <;> rw [hi] <;> decide +kernel
  obtain ⟨many, ha⟩ := hact
  rw [ha] at h3 ⊢
  unfold wSettle at h3 ⊢
  simp only at h3 ⊢
  obtain ⟨a, b, hab, hb, e1, e2⟩ := setL_ok h3
  rw [if_pos h3, e1, e2, last_ups hab hb]
  obtain ⟨⟨mc, mi, args⟩, hb2⟩ := c
  cases args with
  | nil => simp at h1l
  | cons x0 rest =>
    have hrise := rising2_of (lRight_of hr).2.2.2.1
    rw [show (0 : Int) = ((0 : Nat) : Int) from rfl, withC_args (by simp)]
    refine ⟨_, rest, rfl, ⟨l.t.l[b - 1]'(by omega), List.getElem_mem _, rfl⟩, fun x hx hxe => ?_, ?_, rfl⟩
    · rcases List.mem_append.1 hx with hx | hx
      · obtain ⟨j, hj, rfl⟩ := List.getElem_of_mem hx
        rw [List.length_take] at hj
        rw [List.getElem_take] at hxe
        have := (hrise j (b - 1) (by omega) (by omega)).2
        omega
      · obtain ⟨j, hj, rfl⟩ := List.getElem_of_mem hx
        rw [List.length_drop] at hj
        rw [List.getElem_drop] at hxe
        have := (hrise (b - 1) (b + j) (by omega) (by omega)).2
        omega
    · simp only [List.length_append, List.length_take, List.length_drop]
      omega
end Go.Abs.Sig

/-! LL2 -/
namespace Go.Abs.Sig
open Go.RowKit Go.Abs
set_option linter.unusedSimpArgs false
set_option linter.unusedVariables false
set_option maxRecDepth 8000
attribute [local irreducible] StCall StYield WPc Weak IterOf Lp2

def akS1 (l : LeaseL) (c : Cm) (ul : LeaseL) (uc : Cm) (was : Bool) (i : Nat) : S2 := headS 132 ([.bad, .bad, .ptr 0 0, .bad, .bad, .bool true, .bad, .bad, .ptr 2 0, .ptr 3 0, .bad, .bool was, .int .i64 (i : Int)] ++ List.replicate 119 .bad)
  [some (.cells 34 (leaseC l)), some (.cells 41 (ccells c)), some (.cells 34 (leaseC ul)), some (.cells 41 (ccells uc))] [] none
def akS2 (l : LeaseL) (c : Cm) (ul : LeaseL) (uc : Cm) (was : Bool) (i : Nat) : S2 := headS 132 ([.bad, .bad, .ptr 0 0, .bad, .bad, .bool true, .bad, .bad, .ptr 2 0, .ptr 3 0, .bad, .bool was, .bad, .int .i64 (i : Int)] ++ List.replicate 118 .bad)
  [some (.cells 34 (leaseC l)), some (.cells 41 (ccells c)), some (.cells 34 (leaseC ul)), some (.cells 41 (ccells uc))] [] none
theorem leaseAcks_ct (G : Nat → Option (List V)) (hG0 : G 0 = some powV) (hG1 : G 1 = some wV) (l : LeaseL) (c : Cm) (hs : LeaseS l) (hc : CmS c) (hcl : c.1.2.2.length * 24 ≤ maxBytes) (H : Heap) :
    Call2 Go.Proofs.Tryz.prog G 3 [.agg (leaseC l), .agg (ccells c)] H fun r H' => H' = H ∧ r = .bool true := by
  refine Call2.free (fun x hx => by
    simp only [List.mem_cons, List.not_mem_nil, or_false] at hx
    rcases hx with rfl | rfl
    · exact .agg _ (leaseC_free' _)
    · exact ccells_free _) ?_ H
  have hsh := shown18_ct G hG0 hG1
  have hlr := lright_ct G l hs
  have hout := fun h => out_ct G hG0 hG1 l c (outOk_of hs h hc hcl)
  have hlaw := fun h1 h2 => @acks_law l c h1 h2
  unfold settles at hlaw
  have hlf := leaseC_free' l
  have hcf := ccells_free' c
  generalize outL l c = u at hout hlaw
  obtain ⟨ul, uc, ue⟩ := u
  generalize lRight l = rt at hlr hout hlaw
  refine stCall2 Go.Proofs.Tryz.func3 rfl (by decide) ?_
  conv => whnf
  refine Call2.mono (hsh _) fun r0 H0 h => ?_
  obtain ⟨h1, h2⟩ := h
  rw [h1, h2]
  clear h1 h2 r0 H0
  conv => whnf
  refine Call2.mono (hlr _) fun r0 H0 h => ?_
  obtain ⟨h1, h2⟩ := h
  rw [h1, h2]
  clear h1 h2 r0 H0
  conv => whnf
  by_cases h60 : c.1.1 = 60
  · refine br_t (decide_eq_true h60) ?_
    conv => whnf
    by_cases h80 : c.1.2.1 = 80
    · refine br_t (decide_eq_true h80) ?_
      conv => whnf
      have hst : c.1.1 = 60 ∧ (c.1.2.1 = 80 ∨ c.1.2.1 = 90 ∨ c.1.2.1 = 120) := ⟨h60, .inl h80⟩
      cases rt
      · conv => whnf
        exact ⟨.im _, rfl⟩
      have hl2 := hlaw rfl hst
      conv => whnf
      refine Call2.mono (hout rfl _) fun r0 H0 h => ?_
      obtain ⟨h1, h2⟩ := h
      rw [h1, h2]
      clear h1 h2 r0 H0
      conv => whnf
      by_cases he : ue ≠ 0
      · refine br_t (show decide (ue ≠ 0) = true from decide_eq_true he) ?_
        conv => whnf
        exact ⟨.im _, rfl⟩
      refine br_f (show decide (ue ≠ 0) = false from decide_eq_false he) ?_
      obtain ⟨v, rest, e1, hex, hno, hlt, hnx⟩ := hl2 (by simpa using he)
      clear hl2 hlaw hout hlr hsh
      simp only at e1 hno hlt hnx
      have huf := leaseC_free' ul
      have hucf := ccells_free' uc
      obtain ⟨⟨uc1, uc2, ua⟩, uh, ub⟩ := uc
      simp only at e1
      subst e1
      obtain ⟨v1, v2⟩ := v
      simp only at hex hno
      have htl := hs.tl
      have hmb : maxBytes = 140737488355328 := rfl
      have hvl : (tagR l.t.l).length = l.t.l.length := by simp [tagR]
      have hvu : (tagR ul.t.l).length = ul.t.l.length := by simp [tagR]
      conv => whnf
      intro hw
      refine wpc_loop2 (fun n1 s1 => ∃ i : Nat, i ≤ l.t.l.length ∧ n1 = l.t.l.length - i ∧ s1 = akS1 l c ul ((uc1, uc2, (v1, v2) :: rest), uh, ub) ((l.t.l.take i).any fun x => decide (x.2 = v1)) i) l.t.l.length (akS1 l c ul ((uc1, uc2, (v1, v2) :: rest), uh, ub) false 0) ?_ ⟨0, by omega, rfl, rfl⟩ ?_ ?_
      · exact weak2 hw rfl ⟨.ptr 0 0 (Nat.le_of_ble_eq_true rfl), .im _, .ptr 2 0 (Nat.le_of_ble_eq_true rfl), .ptr 3 0 (Nat.le_of_ble_eq_true rfl), .im _, .im _, trivial⟩ (.cons (BW.free hlf) (.cons (BW.free hcf) (.cons (BW.free huf) (.cons (BW.free hucf) (.nil _))))) (fun id hid => by cases hid) rfl (fun id hid => by cases hid)
      · rintro n1 s1 ⟨i, _, _, rfl⟩
        exact ⟨⟨Nat.le_refl 132, fun x hx => by cases hx⟩, rfl, Nat.le_of_ble_eq_true rfl, rfl⟩
      rintro n1 s1 ⟨i, hi, rfl, rfl⟩
      by_cases hil : i < l.t.l.length
      · have hd0 : (true && true && decide ((0 : Int) ≤ (i : Int))) = true := by simp
        have hwi : IntKind.i64.wrap ((i : Int) + 1) = ((i + 1 : Nat) : Int) := by rw [wrap_i64 (by omega) (by omega)]; rfl
        have hg1 : (tagR l.t.l)[Int.toNat (i : Int)]? = some [.int .u64 l.t.l[i].1, .int .u64 l.t.l[i].2] := rowGet _ l.t.l i hil
        have hany : ((l.t.l.take (i + 1)).any fun x => decide (x.2 = v1)) = (((l.t.l.take i).any fun x => decide (x.2 = v1)) || decide (l.t.l[i].2 = v1)) := by
          rw [List.take_succ_eq_append_getElem hil, List.any_append]
          simp
        generalize ((l.t.l.take i).any fun x => decide (x.2 = v1)) = was at hany ⊢
        conv => whnf
        refine br_t (decide_eq_true (by rw [hvl]; omega)) ?_
        conv => whnf
        intro hw1
        refine wpc_draw2 17 (by rfl) (by decide) (by decide) hw1 ?_
        cases was
        · conv => whnf
          refine grd_intro hd0 (optK_intro hg1 ?_)
          conv => whnf
          intro hw2
          refine ⟨l.t.l.length - (i + 1), akS1 l c ul ((uc1, uc2, (v1, v2) :: rest), uh, ub) ((l.t.l.take (i + 1)).any fun x => decide (x.2 = v1)) (i + 1), by omega, ?_, i + 1, by omega, rfl, rfl⟩
          exact weak2 hw2 rfl ⟨.ptr 0 0 (Nat.le_of_ble_eq_true rfl), .im _, .ptr 2 0 (Nat.le_of_ble_eq_true rfl), .ptr 3 0 (Nat.le_of_ble_eq_true rfl), VW.boolE (by rw [hany]; rfl), .int hwi, trivial⟩ (.cons (BW.free hlf) (.cons (BW.free hcf) (.cons (BW.free huf) (.cons (BW.free hucf) (.nil _))))) (fun id hid => by cases hid) rfl (fun id hid => by cases hid)
        · conv => whnf
          intro hw2
          refine ⟨l.t.l.length - (i + 1), akS1 l c ul ((uc1, uc2, (v1, v2) :: rest), uh, ub) ((l.t.l.take (i + 1)).any fun x => decide (x.2 = v1)) (i + 1), by omega, ?_, i + 1, by omega, rfl, rfl⟩
          exact weak2 hw2 rfl ⟨.ptr 0 0 (Nat.le_of_ble_eq_true rfl), .im _, .ptr 2 0 (Nat.le_of_ble_eq_true rfl), .ptr 3 0 (Nat.le_of_ble_eq_true rfl), VW.boolE (by rw [hany]; rfl), .int hwi, trivial⟩ (.cons (BW.free hlf) (.cons (BW.free hcf) (.cons (BW.free huf) (.cons (BW.free hucf) (.nil _))))) (fun id hid => by cases hid) rfl (fun id hid => by cases hid)
      · have hie : i = l.t.l.length := by omega
        subst hie
        rw [List.take_length]
        have hwas : (l.t.l.any fun x => decide (x.2 = v1)) = true := by
          obtain ⟨x, hx, hxe⟩ := hex
          exact List.any_eq_true.2 ⟨x, hx, decide_eq_true hxe⟩
        rw [hwas]
        conv => whnf
        refine br_f (decide_eq_false (by rw [hvl]; omega)) ?_
        conv => whnf
        intro hw1
        refine wpc_loop2 (fun n1 s1 => ∃ i : Nat, i ≤ ul.t.l.length ∧ n1 = ul.t.l.length - i ∧ s1 = akS2 l c ul ((uc1, uc2, (v1, v2) :: rest), uh, ub) true i) ul.t.l.length (akS2 l c ul ((uc1, uc2, (v1, v2) :: rest), uh, ub) true 0) ?_ ⟨0, by omega, rfl, rfl⟩ ?_ ?_
        · exact weak2 hw1 rfl ⟨.ptr 0 0 (Nat.le_of_ble_eq_true rfl), .im _, .ptr 2 0 (Nat.le_of_ble_eq_true rfl), .ptr 3 0 (Nat.le_of_ble_eq_true rfl), .im _, .im _, trivial⟩ (.cons (BW.free hlf) (.cons (BW.free hcf) (.cons (BW.free huf) (.cons (BW.free hucf) (.nil _))))) (fun id hid => by cases hid) rfl (fun id hid => by cases hid)
        · rintro n1 s1 ⟨i, _, _, rfl⟩
          exact ⟨⟨Nat.le_refl 132, fun x hx => by cases hx⟩, rfl, Nat.le_of_ble_eq_true rfl, rfl⟩
        rintro n1 s1 ⟨i, hi, rfl, rfl⟩
        by_cases hil : i < ul.t.l.length
        · have hd0 : (true && true && decide ((0 : Int) ≤ (i : Int))) = true := by simp
          have hwi : IntKind.i64.wrap ((i : Int) + 1) = ((i + 1 : Nat) : Int) := by rw [wrap_i64 (by omega) (by omega)]; rfl
          have hg1 : (tagR ul.t.l)[Int.toNat (i : Int)]? = some [.int .u64 ul.t.l[i].1, .int .u64 ul.t.l[i].2] := rowGet _ ul.t.l i hil
          have hni := hno ul.t.l[i] (List.getElem_mem hil)
          conv => whnf
          refine br_t (decide_eq_true (by rw [hvu]; omega)) ?_
          conv => whnf
          intro hw2
          refine wpc_draw2 14 (by rfl) (by decide) (by decide) hw2 ?_
          conv => whnf
          refine grd_intro hd0 (optK_intro hg1 ?_)
          conv => whnf
          refine br_f (decide_eq_false hni) ?_
          conv => whnf
          intro hw3
          refine ⟨ul.t.l.length - (i + 1), akS2 l c ul ((uc1, uc2, (v1, v2) :: rest), uh, ub) true (i + 1), by omega, ?_, i + 1, by omega, rfl, rfl⟩
          exact weak2 hw3 rfl ⟨.ptr 0 0 (Nat.le_of_ble_eq_true rfl), .im _, .ptr 2 0 (Nat.le_of_ble_eq_true rfl), .ptr 3 0 (Nat.le_of_ble_eq_true rfl), .im _, .int hwi, trivial⟩ (.cons (BW.free hlf) (.cons (BW.free hcf) (.cons (BW.free huf) (.cons (BW.free hucf) (.nil _))))) (fun id hid => by cases hid) rfl (fun id hid => by cases hid)
        · conv => whnf
          refine br_f (decide_eq_false (by rw [hvu]; omega)) ?_
          conv => whnf
          have hd1 : decide (((tagR ul.t.l).length : Int) < ((tagR l.t.l).length : Int)) = true := decide_eq_true (by rw [hvl, hvu]; omega)
          refine br_t (show bsel true (decide (((tagR ul.t.l).length : Int) < ((tagR l.t.l).length : Int))) false = true by rw [hd1]; rfl) ?_
          conv => whnf
          refine ⟨.im _, ?_⟩
          show V.bool (bsel true (decide (ul.t.nx = l.t.nx)) false) = .bool true
          rw [decide_eq_true hnx]
          rfl
    refine br_f (decide_eq_false h80) ?_
    conv => whnf
    by_cases h90 : c.1.2.1 = 90
    · refine br_t (decide_eq_true h90) ?_
      conv => whnf
      have hst : c.1.1 = 60 ∧ (c.1.2.1 = 80 ∨ c.1.2.1 = 90 ∨ c.1.2.1 = 120) := ⟨h60, .inr (.inl h90)⟩
      cases rt
      · conv => whnf
        exact ⟨.im _, rfl⟩
      have hl2 := hlaw rfl hst
      conv => whnf
      refine Call2.mono (hout rfl _) fun r0 H0 h => ?_
      obtain ⟨h1, h2⟩ := h
      rw [h1, h2]
      clear h1 h2 r0 H0
      conv => whnf
      by_cases he : ue ≠ 0
      · refine br_t (show decide (ue ≠ 0) = true from decide_eq_true he) ?_
        conv => whnf
        exact ⟨.im _, rfl⟩
      refine br_f (show decide (ue ≠ 0) = false from decide_eq_false he) ?_
      obtain ⟨v, rest, e1, hex, hno, hlt, hnx⟩ := hl2 (by simpa using he)
      clear hl2 hlaw hout hlr hsh
      simp only at e1 hno hlt hnx
      have huf := leaseC_free' ul
      have hucf := ccells_free' uc
      obtain ⟨⟨uc1, uc2, ua⟩, uh, ub⟩ := uc
      simp only at e1
      subst e1
      obtain ⟨v1, v2⟩ := v
      simp only at hex hno
      have htl := hs.tl
      have hmb : maxBytes = 140737488355328 := rfl
      have hvl : (tagR l.t.l).length = l.t.l.length := by simp [tagR]
      have hvu : (tagR ul.t.l).length = ul.t.l.length := by simp [tagR]
      conv => whnf
      intro hw
      refine wpc_loop2 (fun n1 s1 => ∃ i : Nat, i ≤ l.t.l.length ∧ n1 = l.t.l.length - i ∧ s1 = akS1 l c ul ((uc1, uc2, (v1, v2) :: rest), uh, ub) ((l.t.l.take i).any fun x => decide (x.2 = v1)) i) l.t.l.length (akS1 l c ul ((uc1, uc2, (v1, v2) :: rest), uh, ub) false 0) ?_ ⟨0, by omega, rfl, rfl⟩ ?_ ?_
      · exact weak2 hw rfl ⟨.ptr 0 0 (Nat.le_of_ble_eq_true rfl), .im _, .ptr 2 0 (Nat.le_of_ble_eq_true rfl), .ptr 3 0 (Nat.le_of_ble_eq_true rfl), .im _, .im _, trivial⟩ (.cons (BW.free hlf) (.cons (BW.free hcf) (.cons (BW.free huf) (.cons (BW.free hucf) (.nil _))))) (fun id hid => by cases hid) rfl (fun id hid => by cases hid)
      · rintro n1 s1 ⟨i, _, _, rfl⟩
        exact ⟨⟨Nat.le_refl 132, fun x hx => by cases hx⟩, rfl, Nat.le_of_ble_eq_true rfl, rfl⟩
      rintro n1 s1 ⟨i, hi, rfl, rfl⟩
      by_cases hil : i < l.t.l.length
      · have hd0 : (true && true && decide ((0 : Int) ≤ (i : Int))) = true := by simp
        have hwi : IntKind.i64.wrap ((i : Int) + 1) = ((i + 1 : Nat) : Int) := by rw [wrap_i64 (by omega) (by omega)]; rfl
        have hg1 : (tagR l.t.l)[Int.toNat (i : Int)]? = some [.int .u64 l.t.l[i].1, .int .u64 l.t.l[i].2] := rowGet _ l.t.l i hil
        have hany : ((l.t.l.take (i + 1)).any fun x => decide (x.2 = v1)) = (((l.t.l.take i).any fun x => decide (x.2 = v1)) || decide (l.t.l[i].2 = v1)) := by
          rw [List.take_succ_eq_append_getElem hil, List.any_append]
          simp
        generalize ((l.t.l.take i).any fun x => decide (x.2 = v1)) = was at hany ⊢
        conv => whnf
        refine br_t (decide_eq_true (by rw [hvl]; omega)) ?_
        conv => whnf
        intro hw1
        refine wpc_draw2 17 (by rfl) (by decide) (by decide) hw1 ?_
        cases was
        · conv => whnf
          refine grd_intro hd0 (optK_intro hg1 ?_)
          conv => whnf
          intro hw2
          refine ⟨l.t.l.length - (i + 1), akS1 l c ul ((uc1, uc2, (v1, v2) :: rest), uh, ub) ((l.t.l.take (i + 1)).any fun x => decide (x.2 = v1)) (i + 1), by omega, ?_, i + 1, by omega, rfl, rfl⟩
          exact weak2 hw2 rfl ⟨.ptr 0 0 (Nat.le_of_ble_eq_true rfl), .im _, .ptr 2 0 (Nat.le_of_ble_eq_true rfl), .ptr 3 0 (Nat.le_of_ble_eq_true rfl), VW.boolE (by rw [hany]; rfl), .int hwi, trivial⟩ (.cons (BW.free hlf) (.cons (BW.free hcf) (.cons (BW.free huf) (.cons (BW.free hucf) (.nil _))))) (fun id hid => by cases hid) rfl (fun id hid => by cases hid)
        · conv => whnf
          intro hw2
          refine ⟨l.t.l.length - (i + 1), akS1 l c ul ((uc1, uc2, (v1, v2) :: rest), uh, ub) ((l.t.l.take (i + 1)).any fun x => decide (x.2 = v1)) (i + 1), by omega, ?_, i + 1, by omega, rfl, rfl⟩
          exact weak2 hw2 rfl ⟨.ptr 0 0 (Nat.le_of_ble_eq_true rfl), .im _, .ptr 2 0 (Nat.le_of_ble_eq_true rfl), .ptr 3 0 (Nat.le_of_ble_eq_true rfl), VW.boolE (by rw [hany]; rfl), .int hwi, trivial⟩ (.cons (BW.free hlf) (.cons (BW.free hcf) (.cons (BW.free huf) (.cons (BW.free hucf) (.nil _))))) (fun id hid => by cases hid) rfl (fun id hid => by cases hid)
      · have hie : i = l.t.l.length := by omega
        subst hie
        rw [List.take_length]
        have hwas : (l.t.l.any fun x => decide (x.2 = v1)) = true := by
          obtain ⟨x, hx, hxe⟩ := hex
          exact List.any_eq_true.2 ⟨x, hx, decide_eq_true hxe⟩
        rw [hwas]
        conv => whnf
        refine br_f (decide_eq_false (by rw [hvl]; omega)) ?_
        conv => whnf
        intro hw1
        refine wpc_loop2 (fun n1 s1 => ∃ i : Nat, i ≤ ul.t.l.length ∧ n1 = ul.t.l.length - i ∧ s1 = akS2 l c ul ((uc1, uc2, (v1, v2) :: rest), uh, ub) true i) ul.t.l.length (akS2 l c ul ((uc1, uc2, (v1, v2) :: rest), uh, ub) true 0) ?_ ⟨0, by omega, rfl, rfl⟩ ?_ ?_
        · exact weak2 hw1 rfl ⟨.ptr 0 0 (Nat.le_of_ble_eq_true rfl), .im _, .ptr 2 0 (Nat.le_of_ble_eq_true rfl), .ptr 3 0 (Nat.le_of_ble_eq_true rfl), .im _, .im _, trivial⟩ (.cons (BW.free hlf) (.cons (BW.free hcf) (.cons (BW.free huf) (.cons (BW.free hucf) (.nil _))))) (fun id hid => by cases hid) rfl (fun id hid => by cases hid)
        · rintro n1 s1 ⟨i, _, _, rfl⟩
          exact ⟨⟨Nat.le_refl 132, fun x hx => by cases hx⟩, rfl, Nat.le_of_ble_eq_true rfl, rfl⟩
        rintro n1 s1 ⟨i, hi, rfl, rfl⟩
        by_cases hil : i < ul.t.l.length
        · have hd0 : (true && true && decide ((0 : Int) ≤ (i : Int))) = true := by simp
          have hwi : IntKind.i64.wrap ((i : Int) + 1) = ((i + 1 : Nat) : Int) := by rw [wrap_i64 (by omega) (by omega)]; rfl
          have hg1 : (tagR ul.t.l)[Int.toNat (i : Int)]? = some [.int .u64 ul.t.l[i].1, .int .u64 ul.t.l[i].2] := rowGet _ ul.t.l i hil
          have hni := hno ul.t.l[i] (List.getElem_mem hil)
          conv => whnf
          refine br_t (decide_eq_true (by rw [hvu]; omega)) ?_
          conv => whnf
          intro hw2
          refine wpc_draw2 14 (by rfl) (by decide) (by decide) hw2 ?_
          conv => whnf
          refine grd_intro hd0 (optK_intro hg1 ?_)
          conv => whnf
          refine br_f (decide_eq_false hni) ?_
          conv => whnf
          intro hw3
          refine ⟨ul.t.l.length - (i + 1), akS2 l c ul ((uc1, uc2, (v1, v2) :: rest), uh, ub) true (i + 1), by omega, ?_, i + 1, by omega, rfl, rfl⟩
          exact weak2 hw3 rfl ⟨.ptr 0 0 (Nat.le_of_ble_eq_true rfl), .im _, .ptr 2 0 (Nat.le_of_ble_eq_true rfl), .ptr 3 0 (Nat.le_of_ble_eq_true rfl), .im _, .int hwi, trivial⟩ (.cons (BW.free hlf) (.cons (BW.free hcf) (.cons (BW.free huf) (.cons (BW.free hucf) (.nil _))))) (fun id hid => by cases hid) rfl (fun id hid => by cases hid)
        · conv => whnf
          refine br_f (decide_eq_false (by rw [hvu]; omega)) ?_
          conv => whnf
          have hd1 : decide (((tagR ul.t.l).length : Int) < ((tagR l.t.l).length : Int)) = true := decide_eq_true (by rw [hvl, hvu]; omega)
          refine br_t (show bsel true (decide (((tagR ul.t.l).length : Int) < ((tagR l.t.l).length : Int))) false = true by rw [hd1]; rfl) ?_
          conv => whnf
          refine ⟨.im _, ?_⟩
          show V.bool (bsel true (decide (ul.t.nx = l.t.nx)) false) = .bool true
          rw [decide_eq_true hnx]
          rfl
    refine br_f (decide_eq_false h90) ?_
    conv => whnf
    by_cases h120 : c.1.2.1 = 120
    · rw [show decide (c.1.2.1 = 120) = true from decide_eq_true h120]
      conv => whnf
      have hst : c.1.1 = 60 ∧ (c.1.2.1 = 80 ∨ c.1.2.1 = 90 ∨ c.1.2.1 = 120) := ⟨h60, .inr (.inr h120)⟩
      cases rt
      · conv => whnf
        exact ⟨.im _, rfl⟩
      have hl2 := hlaw rfl hst
      conv => whnf
      refine Call2.mono (hout rfl _) fun r0 H0 h => ?_
      obtain ⟨h1, h2⟩ := h
      rw [h1, h2]
      clear h1 h2 r0 H0
      conv => whnf
      by_cases he : ue ≠ 0
      · refine br_t (show decide (ue ≠ 0) = true from decide_eq_true he) ?_
        conv => whnf
        exact ⟨.im _, rfl⟩
      refine br_f (show decide (ue ≠ 0) = false from decide_eq_false he) ?_
      obtain ⟨v, rest, e1, hex, hno, hlt, hnx⟩ := hl2 (by simpa using he)
      clear hl2 hlaw hout hlr hsh
      simp only at e1 hno hlt hnx
      have huf := leaseC_free' ul
      have hucf := ccells_free' uc
      obtain ⟨⟨uc1, uc2, ua⟩, uh, ub⟩ := uc
      simp only at e1
      subst e1
      obtain ⟨v1, v2⟩ := v
      simp only at hex hno
      have htl := hs.tl
      have hmb : maxBytes = 140737488355328 := rfl
      have hvl : (tagR l.t.l).length = l.t.l.length := by simp [tagR]
      have hvu : (tagR ul.t.l).length = ul.t.l.length := by simp [tagR]
      conv => whnf
      intro hw
      refine wpc_loop2 (fun n1 s1 => ∃ i : Nat, i ≤ l.t.l.length ∧ n1 = l.t.l.length - i ∧ s1 = akS1 l c ul ((uc1, uc2, (v1, v2) :: rest), uh, ub) ((l.t.l.take i).any fun x => decide (x.2 = v1)) i) l.t.l.length (akS1 l c ul ((uc1, uc2, (v1, v2) :: rest), uh, ub) false 0) ?_ ⟨0, by omega, rfl, rfl⟩ ?_ ?_
      · exact weak2 hw rfl ⟨.ptr 0 0 (Nat.le_of_ble_eq_true rfl), .im _, .ptr 2 0 (Nat.le_of_ble_eq_true rfl), .ptr 3 0 (Nat.le_of_ble_eq_true rfl), .im _, .im _, trivial⟩ (.cons (BW.free hlf) (.cons (BW.free hcf) (.cons (BW.free huf) (.cons (BW.free hucf) (.nil _))))) (fun id hid => by cases hid) rfl (fun id hid => by cases hid)
      · rintro n1 s1 ⟨i, _, _, rfl⟩
        exact ⟨⟨Nat.le_refl 132, fun x hx => by cases hx⟩, rfl, Nat.le_of_ble_eq_true rfl, rfl⟩
      rintro n1 s1 ⟨i, hi, rfl, rfl⟩
      by_cases hil : i < l.t.l.length
      · have hd0 : (true && true && decide ((0 : Int) ≤ (i : Int))) = true := by simp
        have hwi : IntKind.i64.wrap ((i : Int) + 1) = ((i + 1 : Nat) : Int) := by rw [wrap_i64 (by omega) (by omega)]; rfl
        have hg1 : (tagR l.t.l)[Int.toNat (i : Int)]? = some [.int .u64 l.t.l[i].1, .int .u64 l.t.l[i].2] := rowGet _ l.t.l i hil
        have hany : ((l.t.l.take (i + 1)).any fun x => decide (x.2 = v1)) = (((l.t.l.take i).any fun x => decide (x.2 = v1)) || decide (l.t.l[i].2 = v1)) := by
          rw [List.take_succ_eq_append_getElem hil, List.any_append]
          simp
        generalize ((l.t.l.take i).any fun x => decide (x.2 = v1)) = was at hany ⊢
        conv => whnf
        refine br_t (decide_eq_true (by rw [hvl]; omega)) ?_
        conv => whnf
        intro hw1
        refine wpc_draw2 17 (by rfl) (by decide) (by decide) hw1 ?_
        cases was
        · conv => whnf
          refine grd_intro hd0 (optK_intro hg1 ?_)
          conv => whnf
          intro hw2
          refine ⟨l.t.l.length - (i + 1), akS1 l c ul ((uc1, uc2, (v1, v2) :: rest), uh, ub) ((l.t.l.take (i + 1)).any fun x => decide (x.2 = v1)) (i + 1), by omega, ?_, i + 1, by omega, rfl, rfl⟩
          exact weak2 hw2 rfl ⟨.ptr 0 0 (Nat.le_of_ble_eq_true rfl), .im _, .ptr 2 0 (Nat.le_of_ble_eq_true rfl), .ptr 3 0 (Nat.le_of_ble_eq_true rfl), VW.boolE (by rw [hany]; rfl), .int hwi, trivial⟩ (.cons (BW.free hlf) (.cons (BW.free hcf) (.cons (BW.free huf) (.cons (BW.free hucf) (.nil _))))) (fun id hid => by cases hid) rfl (fun id hid => by cases hid)
        · conv => whnf
          intro hw2
          refine ⟨l.t.l.length - (i + 1), akS1 l c ul ((uc1, uc2, (v1, v2) :: rest), uh, ub) ((l.t.l.take (i + 1)).any fun x => decide (x.2 = v1)) (i + 1), by omega, ?_, i + 1, by omega, rfl, rfl⟩
          exact weak2 hw2 rfl ⟨.ptr 0 0 (Nat.le_of_ble_eq_true rfl), .im _, .ptr 2 0 (Nat.le_of_ble_eq_true rfl), .ptr 3 0 (Nat.le_of_ble_eq_true rfl), VW.boolE (by rw [hany]; rfl), .int hwi, trivial⟩ (.cons (BW.free hlf) (.cons (BW.free hcf) (.cons (BW.free huf) (.cons (BW.free hucf) (.nil _))))) (fun id hid => by cases hid) rfl (fun id hid => by cases hid)
      · have hie : i = l.t.l.length := by omega
        subst hie
        rw [List.take_length]
        have hwas : (l.t.l.any fun x => decide (x.2 = v1)) = true := by
          obtain ⟨x, hx, hxe⟩ := hex
          exact List.any_eq_true.2 ⟨x, hx, decide_eq_true hxe⟩
        rw [hwas]
        conv => whnf
        refine br_f (decide_eq_false (by rw [hvl]; omega)) ?_
        conv => whnf
        intro hw1
        refine wpc_loop2 (fun n1 s1 => ∃ i : Nat, i ≤ ul.t.l.length ∧ n1 = ul.t.l.length - i ∧ s1 = akS2 l c ul ((uc1, uc2, (v1, v2) :: rest), uh, ub) true i) ul.t.l.length (akS2 l c ul ((uc1, uc2, (v1, v2) :: rest), uh, ub) true 0) ?_ ⟨0, by omega, rfl, rfl⟩ ?_ ?_
        · exact weak2 hw1 rfl ⟨.ptr 0 0 (Nat.le_of_ble_eq_true rfl), .im _, .ptr 2 0 (Nat.le_of_ble_eq_true rfl), .ptr 3 0 (Nat.le_of_ble_eq_true rfl), .im _, .im _, trivial⟩ (.cons (BW.free hlf) (.cons (BW.free hcf) (.cons (BW.free huf) (.cons (BW.free hucf) (.nil _))))) (fun id hid => by cases hid) rfl (fun id hid => by cases hid)
        · rintro n1 s1 ⟨i, _, _, rfl⟩
          exact ⟨⟨Nat.le_refl 132, fun x hx => by cases hx⟩, rfl, Nat.le_of_ble_eq_true rfl, rfl⟩
        rintro n1 s1 ⟨i, hi, rfl, rfl⟩
        by_cases hil : i < ul.t.l.length
        · have hd0 : (true && true && decide ((0 : Int) ≤ (i : Int))) = true := by simp
          have hwi : IntKind.i64.wrap ((i : Int) + 1) = ((i + 1 : Nat) : Int) := by rw [wrap_i64 (by omega) (by omega)]; rfl
          have hg1 : (tagR ul.t.l)[Int.toNat (i : Int)]? = some [.int .u64 ul.t.l[i].1, .int .u64 ul.t.l[i].2] := rowGet _ ul.t.l i hil
          have hni := hno ul.t.l[i] (List.getElem_mem hil)
          conv => whnf
          refine br_t (decide_eq_true (by rw [hvu]; omega)) ?_
          conv => whnf
          intro hw2
          refine wpc_draw2 14 (by rfl) (by decide) (by decide) hw2 ?_
          conv => whnf
          refine grd_intro hd0 (optK_intro hg1 ?_)
          conv => whnf
          refine br_f (decide_eq_false hni) ?_
          conv => whnf
          intro hw3
          refine ⟨ul.t.l.length - (i + 1), akS2 l c ul ((uc1, uc2, (v1, v2) :: rest), uh, ub) true (i + 1), by omega, ?_, i + 1, by omega, rfl, rfl⟩
          exact weak2 hw3 rfl ⟨.ptr 0 0 (Nat.le_of_ble_eq_true rfl), .im _, .ptr 2 0 (Nat.le_of_ble_eq_true rfl), .ptr 3 0 (Nat.le_of_ble_eq_true rfl), .im _, .int hwi, trivial⟩ (.cons (BW.free hlf) (.cons (BW.free hcf) (.cons (BW.free huf) (.cons (BW.free hucf) (.nil _))))) (fun id hid => by cases hid) rfl (fun id hid => by cases hid)
        · conv => whnf
          refine br_f (decide_eq_false (by rw [hvu]; omega)) ?_
          conv => whnf
          have hd1 : decide (((tagR ul.t.l).length : Int) < ((tagR l.t.l).length : Int)) = true := decide_eq_true (by rw [hvl, hvu]; omega)
          refine br_t (show bsel true (decide (((tagR ul.t.l).length : Int) < ((tagR l.t.l).length : Int))) false = true by rw [hd1]; rfl) ?_
          conv => whnf
          refine ⟨.im _, ?_⟩
          show V.bool (bsel true (decide (ul.t.nx = l.t.nx)) false) = .bool true
          rw [decide_eq_true hnx]
          rfl
    rw [show decide (c.1.2.1 = 120) = false from decide_eq_false h120]
    conv => whnf
    cases rt
    · conv => whnf
      exact ⟨.im _, rfl⟩
    · conv => whnf
      exact ⟨.im _, rfl⟩
  · refine br_f (decide_eq_false h60) ?_
    conv => whnf
    cases rt
    · conv => whnf
      exact ⟨.im _, rfl⟩
    · conv => whnf
      exact ⟨.im _, rfl⟩
end Go.Abs.Sig

/-! LL3 -/
namespace Go.Abs.Sig
open Go.RowKit Go.Abs
set_option linter.unusedSimpArgs false
set_option linter.unusedVariables false
set_option maxRecDepth 8000
attribute [local irreducible] StCall StYield WPc Weak IterOf Lp2

/-! what changes of a command -/
def changes (c : Cm) : Bool := decide (c.1.1 = 60) && (decide (c.1.2.1 = 20) || decide (c.1.2.1 = 30) || decide (c.1.2.1 = 80) || decide (c.1.2.1 = 90) || decide (c.1.2.1 = 120))
theorem outOf_chg : ∀ x ∈ outs2, x.2.2 = 51 ∨ x.2.2 = 52 ∨ x.2.2 = 55 ∨ x.2.2 = 56 → (decide (x.1 = 60) && (decide (x.2.1 = 20) || decide (x.2.1 = 30) || decide (x.2.1 = 80) || decide (x.2.1 = 90) || decide (x.2.1 = 120))) = true := by decide
theorem withC_or (c : Cm) (i : Int) (v : Val') : withC c i v = c ∨ ∃ k, withC c i v = ((c.1.1, c.1.2.1, c.1.2.2.set k v), c.2) := by
  unfold withC withOf
  split
  · exact .inl rfl
  · exact .inr ⟨_, rfl⟩
/-- Just one value is another one. -/
def OneSet (c d : Cm) : Prop := d = c ∨ (changes c = true ∧ ∃ k v, d = ((c.1.1, c.1.2.1, c.1.2.2.set k v), c.2))
theorem actL_one (l : LeaseL) (c : Cm) : OneSet c (actL l c).2.1 := by
  unfold actL
  cases ho : outOf c.1.1 c.1.2.1 with
  | none => exact .inl rfl
  | some g =>
    have hx : ∃ x ∈ outs2, c.1.1 = x.1 ∧ c.1.2.1 = x.2.1 ∧ x.2.2 = g := by
      unfold outOf at ho
      obtain ⟨x, hx, rfl⟩ := Option.map_eq_some_iff.1 ho
      have h1 := List.find?_some hx
      simp only [Bool.and_eq_true, decide_eq_true_eq] at h1
      exact ⟨x, List.mem_of_find?_eq_some hx, h1.1, h1.2, rfl⟩
    obtain ⟨x, hx, ha, hb, rfl⟩ := hx
    have hch : x.2.2 = 51 ∨ x.2.2 = 52 ∨ x.2.2 = 55 ∨ x.2.2 = 56 → changes c = true := fun h => by
      unfold changes
      rw [ha, hb]
      exact outOf_chg x hx h
    have hw : ∀ i v, (x.2.2 = 51 ∨ x.2.2 = 52 ∨ x.2.2 = 55 ∨ x.2.2 = 56) → OneSet c (withC c i v) := fun i v h => by
      rcases withC_or c i v with e | ⟨k, e⟩
      · exact .inl e
      · exact .inr ⟨hch h, k, v, e⟩
    simp only
    unfold actE
    split
    · rename_i h; exact hw _ _ (.inl h)
    split
    · rename_i h
      unfold wCancel
      split
      · exact .inl rfl
      · exact hw _ _ (.inr (.inl h))
    split
    · exact .inl rfl
    split
    · exact .inl rfl
    split
    · rename_i h
      unfold wSettle
      split
      · exact hw _ _ (.inr (.inr (.inl h)))
      · exact .inl rfl
    split
    · rename_i h
      unfold wSettle
      split
      · exact hw _ _ (.inr (.inr (.inr h)))
      · exact .inl rfl
    split
    · exact .inl rfl
    split
    · exact .inl rfl
    split
    · exact .inl rfl
    · exact .inl rfl
/-- How many of the first values are others. -/
def nDiff (a b : List Val') (j : Nat) : Nat := (List.range j).countP fun i => decide (a[i]? ≠ b[i]?)
theorem nDiff_succ (a b : List Val') (j : Nat) : nDiff a b (j + 1) = nDiff a b j + if a[j]? ≠ b[j]? then 1 else 0 := by
  unfold nDiff
  rw [List.range_succ, List.countP_append]
  by_cases h : a[j]? ≠ b[j]? <;> simp [h]
theorem nDiff_le (a b : List Val') (j : Nat) : nDiff a b j ≤ j := by
  unfold nDiff
  have := List.countP_le_length (p := fun i => decide (a[i]? ≠ b[i]?)) (l := List.range j)
  simpa using this
theorem nDiff_self (a : List Val') (j : Nat) : nDiff a a j = 0 := by
  unfold nDiff
  rw [List.countP_eq_zero]
  intro i _
  simp
theorem nDiff_set (a : List Val') (k : Nat) (v : Val') (j : Nat) : nDiff a (a.set k v) j ≤ 1 := by
  unfold nDiff
  have h1 : (List.range j).countP (fun i => decide (a[i]? ≠ (a.set k v)[i]?)) ≤ (List.range j).countP fun i => decide (i = k) := by
    refine List.countP_mono_left fun i _ h => ?_
    simp only [decide_eq_true_eq] at h ⊢
    by_cases hk : i = k
    · exact hk
    · rw [List.getElem?_set_ne (fun h => hk h.symm)] at h
      exact absurd rfl h
  refine Nat.le_trans h1 ?_
  have : ∀ n, (List.range n).countP (fun i => decide (i = k)) ≤ 1 ∧ (n ≤ k → (List.range n).countP (fun i => decide (i = k)) = 0) := by
    intro n
    induction n with
    | zero => simp
    | succ n ih =>
      rw [List.range_succ, List.countP_append]
      by_cases h : n = k
      · have := ih.2 (by omega)
        rw [this]
        simp [h]
      · simp only [List.countP_cons, List.countP_nil, h, decide_false]
        refine ⟨by simpa using ih.1, fun h2 => ?_⟩
        rw [ih.2 (by omega)]
        rfl
  exact (this j).1
theorem plain_law {l : LeaseL} {c : Cm} (h : (outL l c).2.2 = 0) : (outL l c).2.1.1.2.2.length = c.1.2.2.length ∧ (∀ j, nDiff c.1.2.2 (outL l c).2.1.1.2.2 j ≤ 1) ∧ (changes c = true ∨ cmEq c (outL l c).2.1 = true) := by
  obtain ⟨_, _, _, h4⟩ := outL_zero h
  rw [h4]
  rcases actL_one l c with e | ⟨hc, k, v, e⟩
  · show (actL l c).2.1.1.2.2.length = _ ∧ (∀ j, nDiff c.1.2.2 (actL l c).2.1.1.2.2 j ≤ 1) ∧ (_ ∨ cmEq c (actL l c).2.1 = true)
    rw [e]
    exact ⟨rfl, fun j => by rw [nDiff_self]; omega, .inr (by simp [cmEq])⟩
  · show (actL l c).2.1.1.2.2.length = _ ∧ (∀ j, nDiff c.1.2.2 (actL l c).2.1.1.2.2 j ≤ 1) ∧ _
    rw [e]
    exact ⟨by simp, fun j => nDiff_set _ _ _ _, .inl hc⟩
end Go.Abs.Sig

/-! LL4 -/
namespace Go.Abs.Sig
open Go.RowKit Go.Abs
set_option linter.unusedSimpArgs false
set_option linter.unusedVariables false
set_option maxRecDepth 8000
attribute [local irreducible] StCall StYield WPc Weak IterOf Lp2

def lpS (c d : Cm) (n i : Nat) : S2 := headS 118 ([.bad, .bad, .bad, .ptr 1 0, .bad, .bool true, .bad, .bad, .ptr 3 0, .bad, .int .i64 (n : Int), .int .i64 (i : Int)] ++ List.replicate 106 .bad)
  [none, some (.cells 41 (ccells c)), none, some (.cells 41 (ccells d))] [] none
theorem leasePlain_ct (G : Nat → Option (List V)) (hG0 : G 0 = some powV) (hG1 : G 1 = some wV) (l : LeaseL) (c : Cm) (hs : LeaseS l) (hc : CmS c) (hcl : c.1.2.2.length * 24 ≤ maxBytes) (H : Heap) :
    Call2 Go.Proofs.Tryz.prog G 4 [.agg (leaseC l), .agg (ccells c)] H fun r H' => H' = H ∧ r = .bool true := by
  refine Call2.free (fun x hx => by
    simp only [List.mem_cons, List.not_mem_nil, or_false] at hx
    rcases hx with rfl | rfl
    · exact .agg _ (leaseC_free' _)
    · exact ccells_free _) ?_ H
  have hmb : maxBytes = 140737488355328 := rfl
  have hmx : maxLen = 9223372036854775807 := rfl
  have hsh := shown18_ct G hG0 hG1
  have hlr := lright_ct G l hs
  have hout := fun h => out_ct G hG0 hG1 l c (outOk_of hs h hc hcl)
  have hlaw := @plain_law l c
  have hsm := fun d => rcsame_ct G c d hc (by omega)
  have hcf := ccells_free' c
  generalize outL l c = u at hout hlaw
  obtain ⟨ul, uc, ue⟩ := u
  have hsm := hsm uc
  have hucf := ccells_free' uc
  generalize hch : changes c = ch at hlaw
  unfold changes at hch
  generalize cmEq c uc = sm at hlaw hsm
  generalize lRight l = rt at hlr hout
  refine stCall2 Go.Proofs.Tryz.func4 rfl (by decide) ?_
  conv => whnf
  refine Call2.mono (hsh _) fun r0 H0 h => ?_
  obtain ⟨h1, h2⟩ := h
  rw [h1, h2]
  clear h1 h2 r0 H0
  conv => whnf
  refine Call2.mono (hlr _) fun r0 H0 h => ?_
  obtain ⟨h1, h2⟩ := h
  rw [h1, h2]
  clear h1 h2 r0 H0
  conv => whnf
  cases rt
  · conv => whnf
    exact ⟨.im _, rfl⟩
  conv => whnf
  refine Call2.mono (hout rfl _) fun r0 H0 h => ?_
  obtain ⟨h1, h2⟩ := h
  rw [h1, h2]
  clear h1 h2 r0 H0
  conv => whnf
  by_cases he : ue ≠ 0
  · refine br_t (show decide (ue ≠ 0) = true from decide_eq_true he) ?_
    conv => whnf
    exact ⟨.im _, rfl⟩
  refine br_f (show decide (ue ≠ 0) = false from decide_eq_false he) ?_
  obtain ⟨hlen, hnd, hor⟩ := hlaw (by simpa using he)
  clear hlaw hout hlr hsh
  simp only at hlen hnd
  have hor : ch = true ∨ sm = true := hor
  obtain ⟨⟨c1, c2, ca⟩, c3, c4⟩ := c
  obtain ⟨⟨d1, d2, da⟩, d3, d4⟩ := uc
  simp only at hlen hnd hcl hch
  have hvl : (vals ca).length = ca.length := by simp [vals]
  have hvd : (vals da).length = da.length := by simp [vals]
  conv => whnf
  intro hw
  refine wpc_loop2 (fun n1 s1 => ∃ i : Nat, i ≤ ca.length ∧ n1 = ca.length - i ∧ s1 = lpS ((c1, c2, ca), c3, c4) ((d1, d2, da), d3, d4) (nDiff ca da i) i) ca.length (lpS ((c1, c2, ca), c3, c4) ((d1, d2, da), d3, d4) 0 0) ?_ ⟨0, by omega, rfl, rfl⟩ ?_ ?_
  · exact weak2 hw rfl ⟨.ptr 1 0 (Nat.le_of_ble_eq_true rfl), .im _, .ptr 3 0 (Nat.le_of_ble_eq_true rfl), .im _, .im _, trivial⟩ (.cons (.drop _) (.cons (BW.free hcf) (.cons (.drop _) (.cons (BW.free hucf) (.nil _))))) (fun id hid => by cases hid) rfl (fun id hid => by cases hid)
  · rintro n1 s1 ⟨i, _, _, rfl⟩
    exact ⟨⟨Nat.le_refl 118, fun x hx => by cases hx⟩, rfl, Nat.le_of_ble_eq_true rfl, rfl⟩
  rintro n1 s1 ⟨i, hi, rfl, rfl⟩
  by_cases hil : i < ca.length
  · have hd0 : (true && true && decide ((0 : Int) ≤ (i : Int))) = true := by simp
    have hg1 : (vals ca)[Int.toNat (i : Int)]? = some (vcells ca[i]) := vals_get (List.getElem?_eq_getElem hil)
    have hg2 : (vals da)[Int.toNat (i : Int)]? = some (vcells (da[i]'(by omega))) := vals_get (List.getElem?_eq_getElem (by omega))
    have hwi : IntKind.i64.wrap ((i : Int) + 1) = ((i + 1 : Nat) : Int) := by rw [wrap_i64 (by omega) (by omega)]; rfl
    have hle := nDiff_le ca da i
    have hsc := nDiff_succ ca da i
    rw [List.getElem?_eq_getElem hil, List.getElem?_eq_getElem (show i < da.length by omega)] at hsc
    generalize nDiff ca da i = n at hle hsc ⊢
    have hwn : IntKind.i64.wrap ((n : Int) + 1) = ((n + 1 : Nat) : Int) := by rw [wrap_i64 (by omega) (by omega)]; rfl
    conv => whnf
    refine br_t (decide_eq_true (by rw [hvl]; omega)) ?_
    conv => whnf
    refine br_t (show bsel true (decide ((i : Int) < ((vals da).length : Int))) false = true from by rw [decide_eq_true (show (i : Int) < ((vals da).length : Int) by rw [hvd]; omega)]; rfl) ?_
    conv => whnf
    intro hw2
    refine wpc_draw2 13 (by rfl) (by decide) (by decide) hw2 ?_
    conv => whnf
    refine grd_intro hd0 (optK_intro hg1 ?_)
    conv => whnf
    refine grd_intro hd0 (optK_intro hg2 ?_)
    conv => whnf
    refine EqT.neq eqT32 flat32 (eq32 _ _) ?_
    conv => whnf
    refine br_intro (fun hne => ?_) (fun heq => ?_)
    · have hne' : (!(decide (ca[i] = da[i]'(by omega)))) = true := hne
      conv => whnf
      intro hw3
      refine ⟨ca.length - (i + 1), lpS ((c1, c2, ca), c3, c4) ((d1, d2, da), d3, d4) (nDiff ca da (i + 1)) (i + 1), by omega, ?_, i + 1, by omega, rfl, rfl⟩
      rw [hsc, if_pos (by simpa using hne')]
      exact weak2 hw3 rfl ⟨.ptr 1 0 (Nat.le_of_ble_eq_true rfl), .im _, .ptr 3 0 (Nat.le_of_ble_eq_true rfl), .int hwn, .int hwi, trivial⟩ (.cons (.drop _) (.cons (BW.free hcf) (.cons (.drop _) (.cons (BW.free hucf) (.nil _))))) (fun id hid => by cases hid) rfl (fun id hid => by cases hid)
    · have heq' : (!(decide (ca[i] = da[i]'(by omega)))) = false := heq
      conv => whnf
      intro hw3
      refine ⟨ca.length - (i + 1), lpS ((c1, c2, ca), c3, c4) ((d1, d2, da), d3, d4) (nDiff ca da (i + 1)) (i + 1), by omega, ?_, i + 1, by omega, rfl, rfl⟩
      rw [hsc, if_neg (by simpa using heq')]
      exact weak2 hw3 rfl ⟨.ptr 1 0 (Nat.le_of_ble_eq_true rfl), .im _, .ptr 3 0 (Nat.le_of_ble_eq_true rfl), .int rfl, .int hwi, trivial⟩ (.cons (.drop _) (.cons (BW.free hcf) (.cons (.drop _) (.cons (BW.free hucf) (.nil _))))) (fun id hid => by cases hid) rfl (fun id hid => by cases hid)
  · have hie : i = ca.length := by omega
    subst hie
    have hn1 := hnd ca.length
    generalize nDiff ca da ca.length = n at hn1 ⊢
    conv => whnf
    refine br_f (decide_eq_false (by rw [hvl]; omega)) ?_
    conv => whnf
    have hb1 : bsel true (decide (((vals ca).length : Int) = ((vals da).length : Int))) false = true := by
      rw [decide_eq_true (show ((vals ca).length : Int) = ((vals da).length : Int) by rw [hvl, hvd]; omega)]; rfl
    have hb2 : bsel true (decide ((n : Int) ≤ 1)) false = true := by
      rw [decide_eq_true (show (n : Int) ≤ 1 by omega)]; rfl
    refine br_intro (fun h60 => ?_) (fun h60 => ?_)
    · have h60 : decide (c1 = 60) = true := h60
      conv => whnf
      refine br_intro (fun h20 => ?_) (fun h20 => ?_)
      · conv => whnf
        refine br_t hb1 ?_
        conv => whnf
        refine br_t hb2 ?_
        conv => whnf
        exact ⟨.im _, rfl⟩
      have h20 : decide (c2 = 20) = false := h20
      conv => whnf
      refine br_intro (fun h30 => ?_) (fun h30 => ?_)
      · conv => whnf
        refine br_t hb1 ?_
        conv => whnf
        refine br_t hb2 ?_
        conv => whnf
        exact ⟨.im _, rfl⟩
      have h30 : decide (c2 = 30) = false := h30
      conv => whnf
      refine br_intro (fun h80 => ?_) (fun h80 => ?_)
      · conv => whnf
        refine br_t hb1 ?_
        conv => whnf
        refine br_t hb2 ?_
        conv => whnf
        exact ⟨.im _, rfl⟩
      have h80 : decide (c2 = 80) = false := h80
      conv => whnf
      refine br_intro (fun h90 => ?_) (fun h90 => ?_)
      · conv => whnf
        refine br_t hb1 ?_
        conv => whnf
        refine br_t hb2 ?_
        conv => whnf
        exact ⟨.im _, rfl⟩
      have h90 : decide (c2 = 90) = false := h90
      conv => whnf
      have hsm2 : decide (c2 = 120) = false → sm = true := fun h => by
        rw [h60, h20, h30, h80, h90, h] at hch
        rcases hor with h | h
        · rw [h] at hch; simp at hch
        · exact h
      generalize decide (c2 = 120) = b120 at hsm2 ⊢
      cases b120
      · obtain rfl := hsm2 rfl
        conv => whnf
        refine br_t hb1 ?_
        conv => whnf
        refine br_t hb2 ?_
        conv => whnf
        refine Call2.mono (hsm _) fun r0 H0 h => ?_
        obtain ⟨h1, h2⟩ := h
        rw [h1, h2]
        clear h1 h2 r0 H0
        conv => whnf
        exact ⟨.im _, rfl⟩
      · conv => whnf
        refine br_t hb1 ?_
        conv => whnf
        refine br_t hb2 ?_
        conv => whnf
        exact ⟨.im _, rfl⟩
    · have h60 : decide (c1 = 60) = false := h60
      have hsm2 : sm = true := by
        rw [h60] at hch
        rcases hor with h | h
        · rw [h] at hch; simp at hch
        · exact h
      subst hsm2
      conv => whnf
      refine br_t hb1 ?_
      conv => whnf
      refine br_t hb2 ?_
      conv => whnf
      refine Call2.mono (hsm _) fun r0 H0 h => ?_
      obtain ⟨h1, h2⟩ := h
      rw [h1, h2]
      clear h1 h2 r0 H0
      conv => whnf
      exact ⟨.im _, rfl⟩
end Go.Abs.Sig

/-! LL5 -/
namespace Go.Abs.Sig
open Go.RowKit Go.Abs
set_option linter.unusedSimpArgs false
set_option linter.unusedVariables false
set_option maxRecDepth 8000
attribute [local irreducible] StCall StYield WPc Weak IterOf Lp2

/-! plain facts: what is right, in other words -/
theorem tRight_iff (t : TagsL) : tRight t = true ↔ 1 ≤ t.nx ∧ (∀ x ∈ t.l, 1 ≤ x.1 ∧ x.1 < t.nx ∧ 1 ≤ x.2 ∧ x.2 ≤ t.la) ∧ t.l.Pairwise fun a b => a.1 < b.1 ∧ a.2 < b.2 := by
  constructor
  · intro h
    refine ⟨by unfold tRight at h; simp only [Bool.and_eq_true, decide_eq_true_eq] at h; exact h.1, fun x hx => ?_, List.pairwise_iff_getElem.2 fun i j hi hj hij => rising2_of h i j hj hij⟩
    obtain ⟨i, hi, rfl⟩ := List.getElem_of_mem hx
    have := tAt_of h hi
    exact ⟨this.1, this.2.1, this.2.2.1, this.2.2.2.1⟩
  · rintro ⟨h1, h2, h3⟩
    unfold tRight
    simp only [Bool.and_eq_true, decide_eq_true_eq, List.all_eq_true, List.mem_range]
    refine ⟨h1, fun i hi => ?_⟩
    obtain ⟨a1, a2, a3, a4⟩ := h2 _ (List.getElem_mem hi)
    unfold tAt
    rw [List.getElem?_eq_getElem hi]
    simp only [Bool.and_eq_true, decide_eq_true_eq, Bool.or_eq_true]
    refine ⟨⟨⟨⟨a1, a2⟩, a3⟩, a4⟩, ?_⟩
    by_cases h0 : i = 0
    · exact .inl h0
    · refine .inr ?_
      rw [List.getElem?_eq_getElem (show i - 1 < t.l.length by omega)]
      have := List.pairwise_iff_getElem.1 h3 (i - 1) i (by omega) hi (by omega)
      simp only [Bool.and_eq_true, decide_eq_true_eq]
      exact this
theorem sAt_of {s : SeqL} {i : Nat} (hi : i < s.l.length) (h : sAt s i = true) : 1 ≤ s.l[i] ∧ s.l[i] < s.nx ∧ ∀ h0 : 0 < i, (s.l[i - 1]'(by omega)) < s.l[i] := by
  unfold sAt at h
  rw [List.getElem?_eq_getElem hi] at h
  simp only [Bool.and_eq_true, decide_eq_true_eq, Bool.or_eq_true] at h
  obtain ⟨⟨h1, h2⟩, h3⟩ := h
  refine ⟨h1, h2, fun h0 => ?_⟩
  rcases h3 with h3 | h3
  · omega
  · rw [List.getElem?_eq_getElem (show i - 1 < s.l.length by omega)] at h3
    simpa using h3
theorem sRight_on (s : SeqL) (h : s.on = true) : sRight s = true ↔ 1 ≤ s.nx ∧ s.off ≤ 18446744073709551615 - s.nx ∧ (∀ x ∈ s.l, 1 ≤ x ∧ x < s.nx) ∧ s.l.Pairwise fun a b => a < b := by
  unfold sRight
  rw [h]
  simp only [Bool.and_eq_true, decide_eq_true_eq, List.all_eq_true, List.mem_range]
  constructor
  · rintro ⟨⟨h1, h2⟩, h3⟩
    refine ⟨h1, h2, fun x hx => ?_, List.pairwise_iff_getElem.2 ?_⟩
    · obtain ⟨i, hi, rfl⟩ := List.getElem_of_mem hx
      have := sAt_of hi (h3 i hi)
      exact ⟨this.1, this.2.1⟩
    · intro i j hi hj hij
      induction j with
      | zero => omega
      | succ j ih =>
        have h4 := (sAt_of hj (h3 _ hj)).2.2 (by omega)
        simp only [Nat.add_sub_cancel] at h4
        rcases Nat.lt_or_ge i j with h5 | h5
        · have := ih (by omega) h5; omega
        · have : i = j := by omega
          subst this
          exact h4
  · rintro ⟨h1, h2, h3, h4⟩
    refine ⟨⟨h1, h2⟩, fun i hi => ?_⟩
    obtain ⟨a1, a2⟩ := h3 _ (List.getElem_mem hi)
    unfold sAt
    rw [List.getElem?_eq_getElem hi]
    simp only [Bool.and_eq_true, decide_eq_true_eq, Bool.or_eq_true]
    refine ⟨⟨a1, a2⟩, ?_⟩
    by_cases h0 : i = 0
    · exact .inl h0
    · refine .inr ?_
      rw [List.getElem?_eq_getElem (show i - 1 < s.l.length by omega)]
      have := List.pairwise_iff_getElem.1 h4 (i - 1) i (by omega) hi (by omega)
      simp only [decide_eq_true_eq]
      exact this
theorem nRight_iff (n : NamesL) : nRight n = true ↔ 1 ≤ n.who ∧ (∀ x ∈ n.l, upL n.who x.1 = (x.2.1, 0)) ∧ n.l.Pairwise fun a b => a.1 ≠ b.1 := by
  unfold nRight
  simp only [Bool.and_eq_true, decide_eq_true_eq, List.all_eq_true, List.mem_range]
  constructor
  · rintro ⟨h1, h2⟩
    refine ⟨h1, fun x hx => ?_, List.pairwise_iff_getElem.2 fun i j hi hj hij => ?_⟩
    · obtain ⟨i, hi, rfl⟩ := List.getElem_of_mem hx
      have := h2 i hi
      unfold nAt at this
      rw [List.getElem?_eq_getElem hi] at this
      simp only [Bool.and_eq_true, decide_eq_true_eq] at this
      exact Prod.ext this.1.2 this.1.1
    · have := h2 j hj
      unfold nAt at this
      rw [List.getElem?_eq_getElem hj] at this
      simp only [Bool.and_eq_true, decide_eq_true_eq, List.all_eq_true, List.mem_range] at this
      have := this.2 i hij
      unfold nmNe at this
      rw [List.getElem?_eq_getElem hi] at this
      simpa using this
  · rintro ⟨h1, h2, h3⟩
    refine ⟨h1, fun i hi => ?_⟩
    have a1 := h2 _ (List.getElem_mem hi)
    unfold nAt
    rw [List.getElem?_eq_getElem hi]
    simp only [Bool.and_eq_true, decide_eq_true_eq, List.all_eq_true, List.mem_range]
    refine ⟨⟨by rw [a1], by rw [a1]⟩, fun k hk => ?_⟩
    unfold nmNe
    rw [List.getElem?_eq_getElem (show k < n.l.length by omega)]
    have := List.pairwise_iff_getElem.1 h3 k i (by omega) hi hk
    simpa using this
theorem cut_sub {α : Type} (l : List α) {a b : Nat} (h : a ≤ b) : (l.take a ++ l.drop b).Sublist l := by
  have h1 : (l.drop b).Sublist (l.drop a) := by
    have : l.drop b = (l.drop a).drop (b - a) := by rw [List.drop_drop]; congr 1; omega
    rw [this]
    exact List.drop_sublist _ _
  have := (List.Sublist.refl (l.take a)).append h1
  rwa [List.take_append_drop] at this
theorem tRight_sub {t : TagsL} {l : List (Int × Int)} (h : tRight t = true) (hl : l.Sublist t.l) : tRight { t with l := l } = true := by
  rw [tRight_iff] at h ⊢
  exact ⟨h.1, fun x hx => h.2.1 x (hl.subset hx), h.2.2.sublist hl⟩
theorem nRight_sub {n : NamesL} {l : List Nm} (h : nRight n = true) (hl : l.Sublist n.l) : nRight { n with l := l } = true := by
  rw [nRight_iff] at h ⊢
  exact ⟨h.1, fun x hx => h.2.1 x (hl.subset hx), h.2.2.sublist hl⟩

/-! a lease stays right -/
/-- What is kept. -/
structure Kept (l l' : LeaseL) : Prop where
  s : LeaseS l'
  r : lRight l' = true
  w : l'.who = l.who
  m : l'.most = l.most
theorem lRight_mk {l : LeaseL} (h1 : 1 ≤ l.who) (h2 : 1 ≤ l.most) (h3 : l.most ≤ 1000) (h4 : tRight l.t = true) (h5 : sRight l.s = true) (h6 : nRight l.n = true) (h7 : l.n.who = l.who) (h8 : l.s.off = 0)
    (h9 : (l.t.l.length : Int) ≤ l.most) (h10 : (l.s.l.length : Int) ≤ l.most) (h11 : (l.n.l.length : Int) ≤ l.most) (h12 : (l.gets.length : Int) ≤ l.most) : lRight l = true := by
  unfold lRight
  simp only [Bool.and_eq_true, decide_eq_true_eq]
  exact ⟨⟨⟨⟨⟨⟨⟨⟨⟨⟨⟨h1, h2⟩, h3⟩, h4⟩, h5⟩, h6⟩, h7⟩, h8⟩, h9⟩, h10⟩, h11⟩, h12⟩
theorem kept_t {l : LeaseL} (hs : LeaseS l) (hr : lRight l = true) {t : List (Int × Int)} (h : t.Sublist l.t.l) : Kept l { l with t := { l.t with l := t } } := by
  obtain ⟨h1, h2, h3, h4, h5, h6, h7, h8, h9, h10, h11, h12⟩ := lRight_of hr
  obtain ⟨a1, a2, a3, a4, a5, a6, a7, a8, a9, a10, a11, a12, a13, a14, a15⟩ := hs
  have hl := h.length_le
  refine ⟨⟨a1, a2, a3, a4, a5, a6, a7, a8, ?_, fun x hx => a10 x (h.subset hx), a11, a12, a13, a14, a15⟩, lRight_mk h1 h2 h3 (tRight_sub h4 h) h5 h6 h7 h8 ?_ h10 h11 h12, rfl, rfl⟩
  · show t.length * 16 ≤ maxBytes
    omega
  · show (t.length : Int) ≤ l.most
    omega
theorem kept_n {l : LeaseL} (hs : LeaseS l) (hr : lRight l = true) {n : List Nm} (h : n.Sublist l.n.l) : Kept l { l with n := { l.n with l := n } } := by
  obtain ⟨h1, h2, h3, h4, h5, h6, h7, h8, h9, h10, h11, h12⟩ := lRight_of hr
  obtain ⟨a1, a2, a3, a4, a5, a6, a7, a8, a9, a10, a11, a12, a13, a14, a15⟩ := hs
  have hl := h.length_le
  refine ⟨⟨a1, a2, a3, a4, a5, a6, a7, a8, a9, a10, a11, a12, ?_, fun x hx => a14 x (h.subset hx), a15⟩, lRight_mk h1 h2 h3 h4 h5 (nRight_sub h6 h) h7 h8 h9 h10 ?_ h12, rfl, rfl⟩
  · show n.length * 40 ≤ maxBytes
    omega
  · show (n.length : Int) ≤ l.most
    omega
theorem kept_refl {l : LeaseL} (hs : LeaseS l) (hr : lRight l = true) : Kept l l := ⟨hs, hr, rfl, rfl⟩
theorem madeL_free {l : List Nm} {made : Int} (h0 : 0 ≤ made) (h1 : made < 18446744073709551616) (hl : l.length < 18446744073709551615) :
    (toL l (madeL l (l.length + 1) made).1).2 = false ∧ U64 (madeL l (l.length + 1) made).2 ∧ (madeL l (l.length + 1) made).1.length ≤ 25 ∧ (madeL l (l.length + 1) made).1 ≠ [] := by
  have hex : ∃ j, j ≤ l.length ∧ (∀ i, i < j → (toL l (amqS (madeAt made i))).2 = true) ∧ (toL l (amqS (madeAt made j))).2 = false := by
    by_cases h : ∃ j, j ≤ l.length ∧ (toL l (amqS (madeAt made j))).2 = false
    · obtain ⟨j, hj⟩ := h
      induction j using Nat.strongRecOn with
      | _ j ih =>
        by_cases hall : ∀ i, i < j → (toL l (amqS (madeAt made i))).2 = true
        · exact ⟨j, hj.1, hall, hj.2⟩
        · have : ∃ i, i < j ∧ (toL l (amqS (madeAt made i))).2 = false := by
            by_cases hh : ∃ i, i < j ∧ (toL l (amqS (madeAt made i))).2 = false
            · exact hh
            · exact absurd (fun i hi => by
                cases hb : (toL l (amqS (madeAt made i))).2 with
                | true => rfl
                | false => exact absurd ⟨i, hi, hb⟩ hh) hall
          obtain ⟨i, hi1, hi2⟩ := this
          exact ih i hi1 ⟨by omega, hi2⟩
    · exact absurd (made_free l made hl fun i hi => by
        cases hb : (toL l (amqS (madeAt made i))).2 with
        | true => rfl
        | false => exact absurd ⟨i, by omega, hb⟩ h) id
  obtain ⟨j, hj, hall, hno⟩ := hex
  have hst := madeL_step h0 h1 j hj hall
  have e : l.length + 1 - j = (l.length - j) + 1 := by omega
  rw [hst, e, madeL, if_neg (by rw [hno]; simp)]
  have hr := madeAt_rng made j
  have hfl := fig_len 19 (madeAt made j).toNat (by omega)
  refine ⟨hno, ?_, ?_, by unfold amqS; simp⟩
  · rw [madeAt_succ]
    exact madeAt_rng made (j + 1)
  · unfold amqS
    rw [List.length_append]
    show 5 + _ ≤ 25
    omega
theorem toL_none {l : List Nm} {s : List UInt8} (h : (toL l s).2 = false) : ∀ x ∈ l, x.1 ≠ s := by
  unfold toL nmFind at h
  intro x hx
  split at h
  · cases h
  · rename_i hf
    have := List.find?_eq_none.1 hf x hx
    simpa using this
theorem upL_len (who : Int) (m : List UInt8) : (upL who m).1.length ≤ 255 := by
  unfold upL
  split
  · simp
  split
  · simp
  split
  · simp
  · show (upS who m).length ≤ 255
    omega
/-- A name is put. -/
theorem kept_put {l : LeaseL} (hs : LeaseS l) (hr : lRight l = true) {made : Int} {m : List UInt8} {free : Bool} (hmade : U64 made) (hm : m.length ≤ maxBytes) (hno : ∀ x ∈ l.n.l, x.1 ≠ m) (hfull : (l.n.l.length : Int) < l.most) :
    Kept l { l with n := (nmPut l.n { l.n with made := made } m free).1 } := by
  unfold nmPut
  split
  · exact kept_refl hs hr
  split
  · exact kept_refl hs hr
  rename_i h0 _
  have h0 : (upL l.n.who m).2 = 0 := by simpa using h0
  obtain ⟨h1, h2, h3, h4, h5, h6, h7, h8, h9, h10, h11, h12⟩ := lRight_of hr
  obtain ⟨a1, a2, a3, a4, a5, a6, a7, a8, a9, a10, a11, a12, a13, a14, a15⟩ := hs
  have hmb : maxBytes = 140737488355328 := rfl
  have hul := upL_len l.n.who m
  refine ⟨⟨a1, a2, a3, hmade, a5, a6, a7, a8, a9, a10, a11, a12, ?_, fun x hx => ?_, a15⟩, lRight_mk h1 h2 h3 h4 h5 ?_ h7 h8 h9 h10 ?_ h12, rfl, rfl⟩
  · simp only [List.length_append, List.length_singleton]
    omega
  · rcases List.mem_append.1 hx with hx | hx
    · exact a14 x hx
    · obtain rfl := List.mem_singleton.1 hx
      exact ⟨hm, by simp only; omega⟩
  · rw [nRight_iff] at h6 ⊢
    refine ⟨h6.1, fun x hx => ?_, ?_⟩
    · rcases List.mem_append.1 hx with hx | hx
      · exact h6.2.1 x hx
      · obtain rfl := List.mem_singleton.1 hx
        exact Prod.ext rfl h0
    · show (l.n.l ++ [_]).Pairwise _
      rw [List.pairwise_append]
      refine ⟨h6.2.2, by simp, fun x hx y hy => ?_⟩
      obtain rfl := List.mem_singleton.1 hy
      exact hno x hx
  · simp only [List.length_append, List.length_singleton]
    omega
theorem kept_consume {l : LeaseL} {c : Cm} (hs : LeaseS l) (hr : lRight l = true) (hc : CmS c) : Kept l (wConsume l c).1 := by
  unfold wConsume
  simp only
  unfold nmAdd
  have hmb : maxBytes = 140737488355328 := rfl
  have a := hs.made
  have b := hs.nl
  split
  · exact kept_refl hs hr
  split
  · have hf := madeL_free (l := l.n.l) a.1 a.2 (by omega)
    exact kept_put hs hr hf.2.1 (by have := hf.2.2.1; omega) (toL_none hf.1) (by omega)
  split
  · exact kept_refl hs hr
  · rename_i h1 h2 h3
    exact kept_put (made := l.n.made) hs hr a (argOf_len hc 2) (toL_none (by simpa using h3)) (by omega)
theorem kept_cancel {l : LeaseL} {c : Cm} (e : Int) (hs : LeaseS l) (hr : lRight l = true) : Kept l (wCancel l c e).1 := by
  unfold wCancel
  split
  · exact kept_refl hs hr
  · rename_i x _
    simp only
    split
    · exact kept_n hs hr List.filter_sublist
    · exact kept_refl hs hr
theorem kept_publish {l : LeaseL} (hs : LeaseS l) (hr : lRight l = true) : Kept l (wPublish l).1 := by
  unfold wPublish pubL
  simp only
  split
  · exact kept_refl hs hr
  split
  · exact kept_refl hs hr
  split
  · exact kept_refl hs hr
  rename_i h1 h2 h3
  have hon : l.s.on = true := by simpa using h1
  obtain ⟨g1, g2, g3, g4, g5, g6, g7, g8, g9, g10, g11, g12⟩ := lRight_of hr
  obtain ⟨a1, a2, a3, a4, a5, a6, a7, a8, a9, a10, a11, a12, a13, a14, a15⟩ := hs
  have hmb : maxBytes = 140737488355328 := rfl
  have g5' := (sRight_on _ hon).1 g5
  rw [g8, Int.add_zero] at h2
  have hw1 : IntKind.u64.wrap l.s.nx = l.s.nx := by rw [IntKind.wrap_u64]; have := a7.1; have := a7.2; omega
  rw [hw1] at h2
  have hw : IntKind.u64.wrap (l.s.nx + 1) = l.s.nx + 1 := by rw [IntKind.wrap_u64]; have := a7.1; have := a7.2; omega
  rw [hw]
  refine ⟨⟨a1, a2, a3, a4, a5, a6, ⟨by have := a7.1; simp only; omega, by have := a7.2; simp only; omega⟩, a8, a9, a10, ?_, fun x hx => ?_, a13, a14, a15⟩, lRight_mk g1 g2 g3 g4 ?_ g6 g7 g8 g9 ?_ g11 g12, rfl, rfl⟩
  · simp only [List.length_append, List.length_singleton]
    omega
  · rcases List.mem_append.1 hx with hx | hx
    · exact a12 x hx
    · obtain rfl := List.mem_singleton.1 hx
      exact a7
  · refine (sRight_on { l.s with nx := l.s.nx + 1, l := l.s.l ++ [l.s.nx] } hon).2 ⟨by simp only; omega, by simp only; rw [g8]; have := a7.2; omega, fun x hx => ?_, ?_⟩
    · rcases List.mem_append.1 hx with hx | hx
      · have := g5'.2.2.1 x hx
        exact ⟨this.1, by simp only; omega⟩
      · obtain rfl := List.mem_singleton.1 hx
        exact ⟨g5'.1, by simp only; omega⟩
    · show (l.s.l ++ [_]).Pairwise _
      rw [List.pairwise_append]
      refine ⟨g5'.2.2.2, by simp, fun x hx y hy => ?_⟩
      obtain rfl := List.mem_singleton.1 hy
      exact (g5'.2.2.1 x hx).2
  · simp only [List.length_append, List.length_singleton]
    omega
theorem kept_get {l : LeaseL} (n e : Int) (hs : LeaseS l) (hr : lRight l = true) : Kept l (wGet l n e).1 := by
  unfold wGet
  split
  · exact kept_refl hs hr
  rename_i h0
  obtain ⟨g1, g2, g3, g4, g5, g6, g7, g8, g9, g10, g11, g12⟩ := lRight_of hr
  obtain ⟨a1, a2, a3, a4, a5, a6, a7, a8, a9, a10, a11, a12, a13, a14, a15⟩ := hs
  have hmb : maxBytes = 140737488355328 := rfl
  refine ⟨⟨a1, a2, a3, a4, a5, a6, a7, a8, a9, a10, a11, a12, a13, a14, ?_⟩, lRight_mk g1 g2 g3 g4 g5 g6 g7 g8 g9 g10 g11 ?_, rfl, rfl⟩
  · simp only [List.length_append, List.length_singleton]
    omega
  · simp only [List.length_append, List.length_singleton]
    omega
theorem kept_settle {l : LeaseL} {c : Cm} (many : Bool) (hs : LeaseS l) (hr : lRight l = true) : Kept l (wSettle l c many).1 := by
  unfold wSettle
  simp only
  by_cases h : (setL l.t (argOf c.1 0).1 many).2.2 = 0
  · obtain ⟨a, b, hab, hb, e1, _⟩ := setL_ok h
    rw [e1]
    exact kept_t hs hr (cut_sub _ (by omega))
  · have : (setL l.t (argOf c.1 0).1 many).1 = l.t := by
      unfold setL at h ⊢
      split at h
      · exact absurd rfl h
      · rfl
    rw [this]
    exact kept_refl hs hr
theorem kept_confirm {l : LeaseL} (hs : LeaseS l) (hr : lRight l = true) : Kept l (wConfirm l).1 := by
  unfold wConfirm selL
  split
  · exact kept_refl hs hr
  simp only
  split
  · exact kept_refl hs hr
  split
  · exact kept_refl hs hr
  obtain ⟨g1, g2, g3, g4, g5, g6, g7, g8, g9, g10, g11, g12⟩ := lRight_of hr
  obtain ⟨a1, a2, a3, a4, a5, a6, a7, a8, a9, a10, a11, a12, a13, a14, a15⟩ := hs
  refine ⟨⟨a1, a2, a3, a4, a5, a6, (show U64 1 from ⟨by decide, by decide⟩), (show U64 0 from ⟨by decide, by decide⟩), a9, a10, Nat.zero_le _, (fun x hx => by simp at hx), a13, a14, a15⟩, lRight_mk g1 g2 g3 g4 rfl g6 g7 rfl g9 ?_ g11 g12, rfl, rfl⟩
  show ((0 : Nat) : Int) ≤ l.most
  omega
theorem kept_begin {l : LeaseL} (e : Int) (hs : LeaseS l) (hr : lRight l = true) : Kept l (wBegin l e).1 := by
  unfold wBegin
  split
  · exact kept_refl hs hr
  · obtain ⟨g1, g2, g3, g4, g5, g6, g7, g8, g9, g10, g11, g12⟩ := lRight_of hr
    obtain ⟨a1, a2, a3, a4, a5, a6, a7, a8, a9, a10, a11, a12, a13, a14, a15⟩ := hs
    exact ⟨⟨a1, a2, a3, a4, a5, a6, a7, a8, a9, a10, a11, a12, a13, a14, a15⟩, lRight_mk g1 g2 g3 g4 g5 g6 g7 g8 g9 g10 g11 g12, rfl, rfl⟩
theorem kept_act {l : LeaseL} {c : Cm} (hs : LeaseS l) (hr : lRight l = true) (hc : CmS c) (g : Nat) : Kept l (actE g l c).1 := by
  unfold actE
  split
  · exact kept_consume hs hr hc
  split
  · exact kept_cancel 0 hs hr
  split
  · exact kept_publish hs hr
  split
  · exact kept_get _ _ hs hr
  split
  · exact kept_settle _ hs hr
  split
  · exact kept_settle _ hs hr
  split
  · exact kept_t hs hr (List.nil_sublist _)
  split
  · exact kept_confirm hs hr
  split
  · exact kept_begin _ hs hr
  · exact kept_refl hs hr
theorem kept_out {l : LeaseL} {c : Cm} (hs : LeaseS l) (hr : lRight l = true) (hc : CmS c) : Kept l (outL l c).1 := by
  unfold outL
  split
  · exact kept_refl hs hr
  split
  · exact kept_refl hs hr
  split
  · exact kept_refl hs hr
  · simp only
    unfold actL
    split
    · exact kept_act hs hr hc _
    · exact kept_refl hs hr

/-! never both -/
def both (l : LeaseL) : Bool := l.tx && l.s.on
theorem both_act {l : LeaseL} (c : Cm) (h : both l = false) (g : Nat) : both (actE g l c).1 = false := by
  unfold actE
  split
  · exact h
  split
  · unfold wCancel
    split
    · exact h
    · exact h
  split
  · unfold wPublish pubL both
    simp only
    split
    · exact h
    split
    · exact h
    split
    · exact h
    · exact h
  split
  · unfold wGet
    split
    · exact h
    · exact h
  split
  · exact h
  split
  · exact h
  split
  · exact h
  split
  · unfold wConfirm both
    split
    · exact h
    · rename_i h1
      simp [h1]
  split
  · unfold wBegin
    split
    · exact h
    · rename_i h1
      unfold both
      simp [h1]
  · exact h
theorem both_out {l : LeaseL} {c : Cm} (h : both l = false) : both (outL l c).1 = false := by
  unfold outL
  split
  · exact h
  split
  · exact h
  split
  · exact h
  · simp only
    unfold actL
    split
    · exact both_act c h _
    · exact h
end Go.Abs.Sig

/-! LL6 -/
namespace Go.Abs.Sig
open Go.RowKit Go.Abs
set_option linter.unusedSimpArgs false
set_option linter.unusedVariables false
set_option maxRecDepth 8000
attribute [local irreducible] StCall StYield WPc Weak IterOf Lp2

theorem newL_right {who most : Int} (hw : I64 who) (h : (newL who most).2 = 0) : LeaseS (newL who most).1 ∧ lRight (newL who most).1 = true ∧ both (newL who most).1 = false := by
  unfold newL at h ⊢
  split at h
  · simp at h
  split at h
  · simp at h
  split at h
  · simp at h
  rename_i h1 h2 h3
  rw [if_neg h1, if_neg h2, if_neg h3]
  refine ⟨⟨hw, ⟨by simp only; omega, by simp only; omega⟩, hw, ⟨by simp, by simp⟩, ⟨by simp, by simp⟩, ⟨by simp, by simp⟩, ⟨by simp, by simp⟩, ⟨by simp, by simp⟩, Nat.zero_le _, (fun x hx => by simp at hx), Nat.zero_le _, (fun x hx => by simp at hx), Nat.zero_le _, (fun x hx => by simp at hx), Nat.zero_le _⟩, ?_, rfl⟩
  refine lRight_mk (by simp only; omega) (by simp only; omega) (by simp only; omega) ?_ rfl ?_ rfl rfl ?_ ?_ ?_ ?_
  · rw [tRight_iff]; exact ⟨by simp, (fun x hx => by simp at hx), by simp⟩
  · rw [nRight_iff]; exact ⟨by simp only; omega, (fun x hx => by simp at hx), by simp⟩
  · show ((0 : Nat) : Int) ≤ most; omega
  · show ((0 : Nat) : Int) ≤ most; omega
  · show ((0 : Nat) : Int) ≤ most; omega
  · show ((0 : Nat) : Int) ≤ most; omega
def cmR (l : List Cm) : List (List V) := l.map ccells
def lmS (l : List Cm) (k : LeaseL) (i : Nat) : S2 := headS 54 ([.bad, .bad, .dat 8 (cmR l) .no, .bad, .bad, .bad, .bad, .bool true, .ptr 0 0, .bad, .int .i64 (i : Int)] ++ List.replicate 43 .bad) [some (.cells 34 (leaseC k))] [] none
theorem leaseModes_ct (G : Nat → Option (List V)) (hG0 : G 0 = some powV) (hG1 : G 1 = some wV) (who most : Int) (hw : I64 who) (l : List Cm) (hc : ∀ c ∈ l, CmS c ∧ c.1.2.2.length * 24 ≤ maxBytes) (H : Heap) :
    Call2 Go.Proofs.Tryz.prog G 5 [.int .i64 who, .int .i64 most, .dat 8 (cmR l) .no] H fun r H' => H' = H ∧ r = .bool true := by
  refine Call2.free (fun x hx => by
    simp only [List.mem_cons, List.not_mem_nil, or_false] at hx
    rcases hx with rfl | rfl | rfl
    · exact .im _
    · exact .im _
    · exact .dat _ _ _ (by simp)) ?_ H
  have hsh := shown18_ct G hG0 hG1
  have hnew := new_ct G who most
  have hnr := @newL_right who most hw
  have hvl : (cmR l).length = l.length := by simp [cmR]
  generalize newL who most = u at hnew hnr
  obtain ⟨k0, e0⟩ := u
  refine stCall2 Go.Proofs.Tryz.func5 rfl (by decide) ?_
  conv => whnf
  refine Call2.mono (hsh _) fun r0 H0 h => ?_
  obtain ⟨h1, h2⟩ := h
  rw [h1, h2]
  clear h1 h2 r0 H0
  conv => whnf
  refine Call2.mono (hnew _) fun r0 H0 h => ?_
  obtain ⟨h1, h2⟩ := h
  rw [h1, h2]
  clear h1 h2 r0 H0
  conv => whnf
  by_cases he : e0 ≠ 0
  · refine br_t (show decide (e0 ≠ 0) = true from decide_eq_true he) ?_
    conv => whnf
    exact ⟨.im _, rfl⟩
  refine br_f (show decide (e0 ≠ 0) = false from decide_eq_false he) ?_
  obtain ⟨hk0, hr0, hb0⟩ := hnr (by simpa using he)
  conv => whnf
  rw [hvl]
  by_cases hl : (60 : Int) < (l.length : Int)
  · refine br_t (show bsel false true (decide (60 < (l.length : Int))) = true from decide_eq_true hl) ?_
    conv => whnf
    exact ⟨.im _, rfl⟩
  refine br_f (show bsel false true (decide (60 < (l.length : Int))) = false from decide_eq_false hl) ?_
  conv => whnf
  intro hww
  simp only at hk0 hr0 hb0
  have hrow : ∀ i (hi : i < l.length), (cmR l)[Int.toNat (i : Int)]? = some (ccells l[i]) := fun i hi => rowGet _ l i hi
  refine wpc_loop2 (fun n1 s1 => ∃ (i : Nat) (k : LeaseL), i ≤ l.length ∧ n1 = l.length - i ∧ s1 = lmS l k i ∧ LeaseS k ∧ lRight k = true ∧ both k = false) l.length (lmS l k0 0) ?_ ⟨0, k0, by omega, rfl, rfl, hk0, hr0, hb0⟩ ?_ ?_
  · exact weak2 hww rfl ⟨.dat _ _ _, .im _, .ptr 0 0 (Nat.le_of_ble_eq_true rfl), .im _, trivial⟩ (.cons (BW.free (leaseC_free' _)) (.nil _)) (fun id hid => by cases hid) rfl (fun id hid => by cases hid)
  · rintro n1 s1 ⟨i, k, _, _, rfl, _⟩
    exact ⟨⟨Nat.le_refl 54, fun x hx => by cases hx⟩, rfl, Nat.le_of_ble_eq_true rfl, rfl⟩
  rintro n1 s1 ⟨i, k, hi, rfl, rfl, hk, hr, hb⟩
  by_cases hil : i < l.length
  · have hd0 : (true && true && decide ((0 : Int) ≤ (i : Int))) = true := by simp
    have hwi : IntKind.i64.wrap ((i : Int) + 1) = ((i + 1 : Nat) : Int) := by rw [wrap_i64 (by omega) (by omega)]; rfl
    have hci := hc l[i] (List.getElem_mem hil)
    have hout := out_ct G hG0 hG1 k l[i] (outOk_of hk hr hci.1 hci.2)
    have hkp := kept_out (c := l[i]) hk hr hci.1
    have hbp := both_out (c := l[i]) hb
    have hg1 := hrow i hil
    generalize l[i] = ci at hout hkp hbp hg1
    generalize outL k ci = v at hout hkp hbp
    obtain ⟨k1, c1, e1⟩ := v
    have hk1 := hkp.s
    have hr1 := hkp.r
    clear hkp
    simp only at hk1 hr1 hbp
    have hbb := hbp
    unfold both at hbb
    conv => whnf
    refine br_t (decide_eq_true (by rw [hvl]; omega)) ?_
    conv => whnf
    intro hw1
    refine wpc_drawG2 [10] [] [] (by rfl) (by decide) (by decide) hw1 ?_
    conv => whnf
    refine grd_intro hd0 (optK_intro hg1 ?_)
    conv => whnf
    refine ⟨_, fun X _ => hout _, ?_⟩
    conv => whnf
    cases htx : k1.tx
    · conv => whnf
      intro hw3
      refine ⟨l.length - (i + 1), lmS l k1 (i + 1), by omega, ?_, i + 1, k1, by omega, rfl, rfl, hk1, hr1, hbp⟩
      exact weak2 hw3 rfl ⟨.dat _ _ _, .im _, .ptr 0 0 (Nat.le_of_ble_eq_true rfl), .int hwi, trivial⟩ (.cons (BW.free (leaseC_free' _)) (.nil _)) (fun id hid => by cases hid) rfl (fun id hid => by cases hid)
    · rw [htx, Bool.true_and] at hbb
      conv => whnf
      refine br_f (show bsel true k1.s.on false = false by rw [hbb]; rfl) ?_
      conv => whnf
      intro hw3
      refine ⟨l.length - (i + 1), lmS l k1 (i + 1), by omega, ?_, i + 1, k1, by omega, rfl, rfl, hk1, hr1, hbp⟩
      exact weak2 hw3 rfl ⟨.dat _ _ _, .im _, .ptr 0 0 (Nat.le_of_ble_eq_true rfl), .int hwi, trivial⟩ (.cons (BW.free (leaseC_free' _)) (.nil _)) (fun id hid => by cases hid) rfl (fun id hid => by cases hid)
  · have hie : i = l.length := by omega
    subst hie
    have hlr := lright_ct G k hk
    rw [hr] at hlr
    conv => whnf
    refine br_f (decide_eq_false (by rw [hvl]; omega)) ?_
    conv => whnf
    refine Call2.mono (hlr _) fun r0 H0 h => ?_
    obtain ⟨h1, h2⟩ := h
    rw [h1, h2]
    clear h1 h2 r0 H0
    conv => whnf
    exact ⟨.im _, rfl⟩
end Go.Abs.Sig

/-! LWG -/
namespace Go.Abs.Sig
open Go.RowKit Go.Abs Go.ChangeShapes Go.WideShapes Go.ChangeAt
set_option linter.unusedSimpArgs false
set_option linter.unusedVariables false
set_option maxRecDepth 8000

def laidZ : List (String × DataW Unit) := [("math/bits.deBruijn32tab", Go.Proofs.YtdpbkooiibaaaaaGreatDoor.Rows.laid_math_bits_deBruijn32tab), ("math/bits.deBruijn64tab", Go.Proofs.YtdpbkooiibaaaaaGreatDoor.Rows.laid_math_bits_deBruijn64tab),
  ("internal/strconv.uint64pow10", Go.Proofs.YtdpbkooiibaaaaaGreatDoor.Rows.laid_internal_strconv_uint64pow10), ("interchange/num.widths", Go.Proofs.YtdpbkooiibaaaaaGreatDoor.Rows.laid_interchange_num_widths)]
def wInts : List Int := [1, 2, 4, 8]
def pInts : List Int := (List.range 20).map fun i => ((10 ^ i : Nat) : Int)
theorem laidW_eq : (Go.Proofs.YtdpbkooiibaaaaaGreatDoor.Rows.laid_interchange_num_widths : DataW Unit) = .agg (wInts.map fun n => .lit (.int .i64 n)) := rfl
theorem laidP_eq : (Go.Proofs.YtdpbkooiibaaaaaGreatDoor.Rows.laid_internal_strconv_uint64pow10 : DataW Unit) = .agg (pInts.map fun n => .lit (.int .u64 n)) := by kernel_rfl
theorem gW : Program.globalNamed Go.Proofs.Tryz.prog "interchange/num.widths" = some 1 := by kernel_rfl
theorem gP : Program.globalNamed Go.Proofs.Tryz.prog "internal/strconv.uint64pow10" = some 0 := by kernel_rfl
def GW (g : Nat) : Option (List V) := if g = 0 then some powV else if g = 1 then some wV else none
theorem GW0 : GW 0 = some powV := rfl
theorem GW1 : GW 1 = some wV := rfl
/-- The cells of a listed row of numbers. -/
theorem arr_cells {enc : TypeId × Value → Unit} {W : World} {sp : Nat → Bool} {held : Bool} {b f0 : Nat} {l : List Value} {p0 : List MemPlace} {ta te : TypeId} {k : IntKind} {m : Nat} {zs : List Int} (hta : Program.underlying Go.Proofs.Tryz.prog ta = some (.array m te)) (hte : Program.underlying Go.Proofs.Tryz.prog te = some (.int k)) (hc : Program.cellsOf Go.Proofs.Tryz.prog te = 1)
    (hd : DataW.trod enc Go.Proofs.Tryz.prog W b sp held f0 ta l = some (.agg (zs.map fun n => .lit (.int k n)), p0)) (hm : zs.length = m) (i : Nat) (n : Int) (hr : zs[i]? = some n) :
    l[i]? = some (.int k n) := by
  obtain ⟨xs, m', _, hx, hlen, hn, hel⟩ := DataW.trod_array hta hd
  simp only [Prod.mk.injEq, DataW.agg.injEq] at hx
  have hi : i < m := by rw [← hm]; exact (List.getElem?_eq_some_iff.1 hr).1
  have hxi : (xs.map (·.1))[i]? = some (.lit (.int k n)) := by rw [← hx.1, List.getElem?_map, hr]; rfl
  rw [List.getElem?_map] at hxi
  obtain ⟨y, hy, hye⟩ := Option.map_eq_some_iff.1 hxi
  have he := hel i hi
  rw [hc, hy] at he
  obtain ⟨k1, g1, g1', _⟩ := DataW.trod_int hte he
  rw [g1'] at hye
  simp only [DataW.lit.injEq, Lit.int.injEq, true_and] at hye
  subst hye
  have h0 : ((l.drop (i * 1)).take 1)[0]? = some (.int k k1) := by rw [g1]; rfl
  rw [List.getElem?_take_of_lt (by omega), List.getElem?_drop] at h0
  simpa using h0
theorem tP : (Go.Proofs.Tryz.prog.globals[0]?).map (·.type) = some 245 := by kernel_rfl
theorem tW : (Go.Proofs.Tryz.prog.globals[1]?).map (·.type) = some 255 := by kernel_rfl
theorem pInts_at (j : Nat) (h : j < 20) : pInts[j]? = some ((10 ^ j : Nat) : Int) := by
  unfold pInts
  rw [List.getElem?_map, List.getElem?_range h]
  rfl
theorem glob_GZ {W : World} (h : laidMetH Go.Proofs.Tryz.prog laidZ W) : ∀ g cs, GW g = some cs → Rep W (Env.all W) (.rp cs) (.pointer (some ⟨g, 0, none⟩)) := by
  intro g cs hg
  rw [MakeChecks.laidMetH_plain _ _ _ (by kernel_rfl)] at h
  obtain ⟨ps, ⟨ga, ta, ca, fa, pa, qa, hga, hta, hva, hda, ⟨gb, tb, cb, fb, pb, qb, hgb, htb, hvb, hdb, ⟨g1, t1, cs1, f1, p1, q1, hg1, ht1, hv1, hd1, ⟨g0, t0, cs0, f0, p0, q0, hg0, ht0, hv0, hd0, _, _⟩, _⟩, _⟩, _⟩, _, _⟩ := h
  obtain rfl := Option.some.inj (gP.symm.trans hg1)
  obtain rfl := Option.some.inj (tP.symm.trans ht1)
  obtain rfl := Option.some.inj (gW.symm.trans hg0)
  obtain rfl := Option.some.inj (tW.symm.trans ht0)
  have hcell0 : ∀ j, W.cell? ⟨1, j, none⟩ = cs0[j]? := fun j => World.var?_cell hg0 hv0 j
  have hcell1 : ∀ j, W.cell? ⟨0, j, none⟩ = cs1[j]? := fun j => World.var?_cell hg1 hv1 j
  unfold GW at hg
  split at hg
  · rename_i h1
    subst h1
    obtain rfl : powV = cs := Option.some.inj hg
    refine rep_glob (fun j => (W.cell? ⟨0, j, none⟩).getD (.int .i64 0)) fun j v hv => ?_
    have hj : j < 20 := (List.getElem?_eq_some_iff.1 hv).1
    rw [laidP_eq] at hd1
    have c0 := arr_cells (k := .u64) (zs := pInts) (m := 20) Go.Proofs.Tryz.underlying245 Go.Proofs.Tryz.underlying22 (by kernel_rfl) hd1 rfl j _ (pInts_at j hj)
    rw [powV_at hj] at hv
    obtain rfl := Option.some.inj hv
    have hc : cs1[j]? = some (.int .u64 ((10 ^ j : Nat) : Int)) := by simpa using c0
    rw [hcell1 j, hc]
    exact ⟨rfl, rfl⟩
  split at hg
  · rename_i h1
    subst h1
    obtain rfl : wV = cs := Option.some.inj hg
    refine rep_glob (fun j => (W.cell? ⟨1, j, none⟩).getD (.int .i64 0)) fun j v hv => ?_
    have hj : j < 4 := (List.getElem?_eq_some_iff.1 hv).1
    obtain ⟨n, hr⟩ : ∃ n, wInts[j]? = some n := ⟨_, List.getElem?_eq_getElem (by show j < 4; exact hj)⟩
    rw [laidW_eq] at hd0
    have c0 := arr_cells (k := .i64) (zs := wInts) (m := 4) Go.Proofs.Tryz.underlying255 Go.Proofs.Tryz.underlying3 (by kernel_rfl) hd0 rfl j n hr
    have hv' : v = .int .i64 n := by
      have : wV = wInts.map fun n => V.int .i64 n := rfl
      rw [this, List.getElem?_map, hr] at hv
      exact (Option.some.inj hv).symm
    have hc : cs0[j]? = some (.int .i64 n) := by simpa using c0
    rw [hcell0 j, hc, hv']
    exact ⟨rfl, rfl⟩
  · cases hg

/-- A start that meets the condition. -/
theorem startZ_met (os : Os) (args : Array Value) : laidMetH Go.Proofs.Tryz.prog laidZ ((World.laidAll Go.Proofs.Tryz.prog os laidZ).forCall (fun _ _ => 0) ⟨#[], args, []⟩).memory := by
  rw [MakeChecks.laidMetH_plain _ _ _ (by kernel_rfl)]
  exact laidMet_laidAll _ (by kernel_rfl) (by kernel_rfl)

/-! what is handed over -/
def OkHd (h : Hd) : Prop := (-9223372036854775808 ≤ h.1 ∧ h.1 ≤ 9223372036854775807) ∧ (0 ≤ h.2.1 ∧ h.2.1 ≤ 18446744073709551615) ∧ (0 ≤ h.2.2.1 ∧ h.2.2.1 ≤ 18446744073709551615) ∧ h.2.2.2.length * 24 ≤ reachBytes ∧ ∀ v ∈ h.2.2.2, OkVal v
def OkCm (c : Cm) : Prop := OkMet c.1 ∧ OkHd c.2.1 ∧ c.2.2.length ≤ maxBytes
theorem sh_hd {n : Nat} {vs : List V} (h : Sh Go.Proofs.Tryz.prog (n + 4) 39 vs) : ∃ m : Hd, vs = hdcells m ∧ OkHd m := by
  obtain ⟨p, q, h1, ⟨p', q', h2, ⟨p'', q'', h3, ⟨p3, q3, h4, rfl, rfl⟩, rfl⟩, rfl⟩, rfl⟩ := sh_struct Go.Proofs.Tryz.underlying39 h
  obtain ⟨a, rfl, ha⟩ := sh_int Go.Proofs.Tryz.underlying3 h1
  obtain ⟨b, rfl, hb⟩ := sh_int Go.Proofs.Tryz.underlying22 h2
  obtain ⟨c, rfl, hc⟩ := sh_int Go.Proofs.Tryz.underlying22 h3
  obtain ⟨rows, rfl, hr, he⟩ := sh_slice Go.Proofs.Tryz.underlying35 h4
  obtain ⟨l, rfl, hl⟩ := rows_of (f := fun v : Val' => [.int .u64 v.1, .str v.2]) rows fun r hr => sh_val (he r hr)
  have hcc : Program.cellsOf Go.Proofs.Tryz.prog 50 = 2 := by kernel_rfl
  have hby : Program.bytesOf Go.Proofs.Tryz.prog 50 = 24 := by kernel_rfl
  rw [hcc]
  rw [hby, List.length_map] at hr
  exact ⟨(a, b, c, l), rfl, wf_i64 ha, wf_u64 hb, wf_u64 hc, hr, hl⟩
theorem sh_cm {n : Nat} {vs : List V} (h : Sh Go.Proofs.Tryz.prog (n + 5) 41 vs) : ∃ c : Cm, vs = ccells c ∧ OkCm c := by
  obtain ⟨p, q, h1, ⟨p', q', h2, ⟨p'', q'', h3, rfl, rfl⟩, rfl⟩, rfl⟩ := sh_struct Go.Proofs.Tryz.underlying41 h
  obtain ⟨m, rfl, hm⟩ := sh_met h1
  obtain ⟨hd, rfl, hh⟩ := sh_hd h2
  obtain ⟨l, rfl, hl⟩ := sh_str Go.Proofs.Tryz.underlying9 h3
  exact ⟨(m, hd, l), by unfold ccells; simp, hm, hh, hl⟩
theorem shv_cm {n : Nat} {x : V} (h : ShV Go.Proofs.Tryz.prog (n + 5) 41 x) : ∃ c : Cm, x = .agg (ccells c) ∧ OkCm c := by
  have ha : aggT Go.Proofs.Tryz.prog 41 = true := by kernel_rfl
  unfold ShV at h
  rw [ha] at h
  obtain ⟨vs, rfl, h⟩ := h
  obtain ⟨m, rfl, hm⟩ := sh_cm h
  exact ⟨m, rfl, hm⟩
theorem okCm_s {c : Cm} (h : OkCm c) : CmS c ∧ c.1.2.2.length * 24 ≤ maxBytes := by
  obtain ⟨h1, h2, h3⟩ := h
  refine ⟨⟨fun v hv => (h1.2.2.2 v hv).2, fun v hv => (h2.2.2.2.2 v hv).2, ?_, h3⟩, Nat.le_trans h1.2.2.1 reach_le⟩
  have : c.2.1.2.2.2.length * 24 ≤ 140737488351232 := h2.2.2.2.1
  show c.2.1.2.2.2.length ≤ 2 ^ 63 - 1
  omega
theorem i64_of {x : Int} (h : (Lit.int .i64 x).wf = true) : I64 x := by have := wf_i64 h; exact ⟨this.1, by omega⟩
theorem u64_of {x : Int} (h : (Lit.int .u64 x).wf = true) : U64 x := by have := wf_u64 h; exact ⟨this.1, by omega⟩
theorem sh_tags {n : Nat} {vs : List V} (h : Sh Go.Proofs.Tryz.prog (n + 4) 25 vs) : ∃ t : TagsL, vs = tagsC t ∧ U64 t.nx ∧ U64 t.la ∧ t.l.length * 16 ≤ maxBytes ∧ ∀ x ∈ t.l, U64 x.1 ∧ U64 x.2 := by
  obtain ⟨p, q, h1, ⟨p', q', h2, ⟨p'', q'', h3, rfl, rfl⟩, rfl⟩, rfl⟩ := sh_struct Go.Proofs.Tryz.underlying25 h
  obtain ⟨a, rfl, ha⟩ := sh_int Go.Proofs.Tryz.underlying22 h1
  obtain ⟨b, rfl, hb⟩ := sh_int Go.Proofs.Tryz.underlying22 h2
  obtain ⟨rows, rfl, hr, he⟩ := sh_slice Go.Proofs.Tryz.underlying23 h3
  obtain ⟨l, rfl, hl⟩ := rows_of (f := fun v : Int × Int => [.int .u64 v.1, .int .u64 v.2]) (Q := fun x => U64 x.1 ∧ U64 x.2) rows fun r hr => by
    obtain ⟨p, q, h1, ⟨p', q', h2, rfl, rfl⟩, rfl⟩ := sh_struct Go.Proofs.Tryz.underlying48 (he r hr)
    obtain ⟨a, rfl, ha⟩ := sh_int Go.Proofs.Tryz.underlying22 h1
    obtain ⟨b, rfl, hb⟩ := sh_int Go.Proofs.Tryz.underlying22 h2
    exact ⟨(a, b), rfl, u64_of ha, u64_of hb⟩
  have hcc : Program.cellsOf Go.Proofs.Tryz.prog 48 = 2 := by kernel_rfl
  have hby : Program.bytesOf Go.Proofs.Tryz.prog 48 = 16 := by kernel_rfl
  rw [hcc]
  rw [hby, List.length_map] at hr
  exact ⟨⟨a, b, l⟩, rfl, u64_of ha, u64_of hb, Nat.le_trans hr reach_le, hl⟩
theorem sh_seq {n : Nat} {vs : List V} (h : Sh Go.Proofs.Tryz.prog (n + 4) 28 vs) : ∃ t : SeqL, vs = seqC t ∧ U64 t.nx ∧ U64 t.off ∧ t.l.length * 8 ≤ maxBytes ∧ ∀ x ∈ t.l, U64 x := by
  obtain ⟨p, q, h1, ⟨p', q', h2, ⟨p'', q'', h3, ⟨p3, q3, h4, rfl, rfl⟩, rfl⟩, rfl⟩, rfl⟩ := sh_struct Go.Proofs.Tryz.underlying28 h
  obtain ⟨o, rfl⟩ := sh_bool Go.Proofs.Tryz.underlying4 h1
  obtain ⟨a, rfl, ha⟩ := sh_int Go.Proofs.Tryz.underlying22 h2
  obtain ⟨b, rfl, hb⟩ := sh_int Go.Proofs.Tryz.underlying22 h3
  obtain ⟨rows, rfl, hr, he⟩ := sh_slice Go.Proofs.Tryz.underlying26 h4
  obtain ⟨l, rfl, hl⟩ := rows_of (f := fun v : Int => [.int .u64 v]) (Q := U64) rows fun r hr => by
    obtain ⟨a, rfl, ha⟩ := sh_int Go.Proofs.Tryz.underlying22 (he r hr)
    exact ⟨a, rfl, u64_of ha⟩
  have hcc : Program.cellsOf Go.Proofs.Tryz.prog 22 = 1 := by kernel_rfl
  have hby : Program.bytesOf Go.Proofs.Tryz.prog 22 = 8 := by kernel_rfl
  rw [hcc]
  rw [hby, List.length_map] at hr
  exact ⟨⟨o, a, b, l⟩, rfl, u64_of ha, u64_of hb, Nat.le_trans hr reach_le, hl⟩
theorem sh_names {n : Nat} {vs : List V} (h : Sh Go.Proofs.Tryz.prog (n + 4) 31 vs) : ∃ t : NamesL, vs = namesC t ∧ I64 t.who ∧ U64 t.made ∧ t.l.length * 40 ≤ maxBytes ∧ ∀ x ∈ t.l, x.1.length ≤ maxBytes ∧ x.2.1.length ≤ maxBytes := by
  obtain ⟨p, q, h1, ⟨p', q', h2, ⟨p'', q'', h3, rfl, rfl⟩, rfl⟩, rfl⟩ := sh_struct Go.Proofs.Tryz.underlying31 h
  obtain ⟨a, rfl, ha⟩ := sh_int Go.Proofs.Tryz.underlying3 h1
  obtain ⟨b, rfl, hb⟩ := sh_int Go.Proofs.Tryz.underlying22 h2
  obtain ⟨rows, rfl, hr, he⟩ := sh_slice Go.Proofs.Tryz.underlying29 h3
  obtain ⟨l, rfl, hl⟩ := rows_of (f := nmcells) (Q := fun x => x.1.length ≤ maxBytes ∧ x.2.1.length ≤ maxBytes) rows fun r hr => by
    obtain ⟨p, q, h1, ⟨p', q', h2, ⟨p'', q'', h3, rfl, rfl⟩, rfl⟩, rfl⟩ := sh_struct Go.Proofs.Tryz.underlying85 (he r hr)
    obtain ⟨a, rfl, ha⟩ := sh_str Go.Proofs.Tryz.underlying9 h1
    obtain ⟨b, rfl, hb⟩ := sh_str Go.Proofs.Tryz.underlying9 h2
    obtain ⟨c, rfl⟩ := sh_bool Go.Proofs.Tryz.underlying4 h3
    exact ⟨(a, b, c), rfl, ha, hb⟩
  have hcc : Program.cellsOf Go.Proofs.Tryz.prog 85 = 3 := by kernel_rfl
  have hby : Program.bytesOf Go.Proofs.Tryz.prog 85 = 40 := by kernel_rfl
  rw [hcc]
  rw [hby, List.length_map] at hr
  exact ⟨⟨a, b, l⟩, rfl, i64_of ha, u64_of hb, Nat.le_trans hr reach_le, hl⟩
theorem sh_lease {n : Nat} {vs : List V} (h : Sh Go.Proofs.Tryz.prog (n + 5) 34 vs) : ∃ l : LeaseL, vs = leaseC l ∧ LeaseS l := by
  obtain ⟨p, q, h1, ⟨p2, q2, h2, ⟨p3, q3, h3, ⟨p4, q4, h4, ⟨p5, q5, h5, ⟨p6, q6, h6, ⟨p7, q7, h7, rfl, rfl⟩, rfl⟩, rfl⟩, rfl⟩, rfl⟩, rfl⟩, rfl⟩ := sh_struct Go.Proofs.Tryz.underlying34 h
  obtain ⟨w, rfl, hw⟩ := sh_int Go.Proofs.Tryz.underlying3 h1
  obtain ⟨t, rfl, t1, t2, t3, t4⟩ := sh_tags h2
  obtain ⟨s, rfl, s1, s2, s3, s4⟩ := sh_seq h3
  obtain ⟨m, rfl, m1, m2, m3, m4⟩ := sh_names h4
  obtain ⟨x, rfl⟩ := sh_bool Go.Proofs.Tryz.underlying4 h5
  obtain ⟨rows, rfl, hr, he⟩ := sh_slice Go.Proofs.Tryz.underlying32 h6
  obtain ⟨o, rfl, ho⟩ := sh_int Go.Proofs.Tryz.underlying3 h7
  obtain ⟨l, rfl, hl⟩ := rows_of (f := fun v : Bool => [.bool v]) (Q := fun _ => True) rows fun r hr => by
    obtain ⟨a, rfl⟩ := sh_bool Go.Proofs.Tryz.underlying4 (he r hr)
    exact ⟨a, rfl, trivial⟩
  have hcc : Program.cellsOf Go.Proofs.Tryz.prog 4 = 1 := by kernel_rfl
  have hby : Program.bytesOf Go.Proofs.Tryz.prog 4 = 1 := by kernel_rfl
  rw [hcc]
  rw [hby, List.length_map, Nat.mul_one] at hr
  exact ⟨⟨w, t, s, m, x, l, o⟩, by unfold leaseC; simp [boolR], ⟨i64_of hw, i64_of ho, m1, m2, t1, t2, s1, s2, t3, t4, s3, s4, m3, m4, Nat.le_trans hr reach_le⟩⟩
theorem shv_lease {n : Nat} {x : V} (h : ShV Go.Proofs.Tryz.prog (n + 5) 34 x) : ∃ l : LeaseL, x = .agg (leaseC l) ∧ LeaseS l := by
  have ha : aggT Go.Proofs.Tryz.prog 34 = true := by kernel_rfl
  unfold ShV at h
  rw [ha] at h
  obtain ⟨vs, rfl, h⟩ := h
  obtain ⟨m, rfl, hm⟩ := sh_lease h
  exact ⟨m, rfl, hm⟩
theorem shv_cms {n : Nat} {x : V} (h : ShV Go.Proofs.Tryz.prog (n + 6) 53 x) : ∃ l : List Cm, x = .dat 8 (l.map ccells) .no ∧ ∀ c ∈ l, OkCm c := by
  have ha : aggT Go.Proofs.Tryz.prog 53 = false := by kernel_rfl
  unfold ShV at h
  rw [ha] at h
  obtain ⟨rows, h1, hr, he⟩ := sh_slice Go.Proofs.Tryz.underlying53 h
  obtain ⟨l, rfl, hl⟩ := rows_of (f := ccells) (Q := OkCm) rows fun r hr => sh_cm (he r hr)
  have hcc : Program.cellsOf Go.Proofs.Tryz.prog 41 = 8 := by kernel_rfl
  rw [hcc, List.cons.injEq] at h1
  exact ⟨l, h1.1, hl⟩
end Go.Abs.Sig

/-! LW1 -/
namespace Go.Abs.Sig
open Go.RowKit Go.Abs Go.ChangeShapes Go.WideShapes Go.ChangeAt
set_option linter.unusedSimpArgs false
set_option linter.unusedVariables false
set_option maxRecDepth 8000

theorem leaseAcks_walk (xs : List V) (h : ShAll Go.Proofs.Tryz.prog 8 (#[34, 41] : Array TypeId).toList xs) : Call2 Go.Proofs.Tryz.prog GW 3 xs [] fun r H' => H' = [] ∧ r = .bool true := by
  obtain ⟨x1, r1, h1, ⟨x2, r2, h2, rfl, rfl⟩, rfl⟩ := h
  obtain ⟨l, rfl, hl⟩ := shv_lease h1
  obtain ⟨c, rfl, hc⟩ := shv_cm h2
  exact leaseAcks_ct GW GW0 GW1 l c hl (okCm_s hc).1 (okCm_s hc).2 []
theorem leasePlain_walk (xs : List V) (h : ShAll Go.Proofs.Tryz.prog 8 (#[34, 41] : Array TypeId).toList xs) : Call2 Go.Proofs.Tryz.prog GW 4 xs [] fun r H' => H' = [] ∧ r = .bool true := by
  obtain ⟨x1, r1, h1, ⟨x2, r2, h2, rfl, rfl⟩, rfl⟩ := h
  obtain ⟨l, rfl, hl⟩ := shv_lease h1
  obtain ⟨c, rfl, hc⟩ := shv_cm h2
  exact leasePlain_ct GW GW0 GW1 l c hl (okCm_s hc).1 (okCm_s hc).2 []
theorem leaseModes_walk (xs : List V) (h : ShAll Go.Proofs.Tryz.prog 8 (#[3, 3, 53] : Array TypeId).toList xs) : Call2 Go.Proofs.Tryz.prog GW 5 xs [] fun r H' => H' = [] ∧ r = .bool true := by
  obtain ⟨x1, r1, h1, ⟨x2, r2, h2, ⟨x3, r3, h3, rfl, rfl⟩, rfl⟩, rfl⟩ := h
  obtain ⟨a, rfl, ha⟩ := shv_int h1
  obtain ⟨b, rfl, _⟩ := shv_int h2
  obtain ⟨l, rfl, hl⟩ := shv_cms h3
  exact leaseModes_ct GW GW0 GW1 a b ⟨ha.1, by omega⟩ l (fun c hc => okCm_s (hl c hc)) []
end Go.Abs.Sig
