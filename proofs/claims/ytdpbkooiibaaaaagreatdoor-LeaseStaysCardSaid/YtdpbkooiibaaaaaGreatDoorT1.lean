/- The walks of some functions: what they compute. -/
import Derived.Test.YtdpbkooiibaaaaaGreatDoorAbs4
import Derived.Test.YtdpbkooiibaaaaaGreatDoorProg

set_option linter.unusedVariables false
set_option linter.unusedSimpArgs false
/-! LK1 -/
namespace Go.Abs.Sig
open Go.RowKit Go.Abs
set_option linter.unusedSimpArgs false
set_option linter.unusedVariables false
set_option maxRecDepth 8000

/-! rows in a block of one's own, as they are moved up -/
variable {α : Type}
def flR (r : α → List V) (l : List α) : List V := (l.map r).flatten
theorem flR_cons (r : α → List V) (x : α) (l : List α) : flR r (x :: l) = r x ++ flR r l := rfl
theorem flR_app (r : α → List V) (a b : List α) : flR r (a ++ b) = flR r a ++ flR r b := by simp [flR]
theorem flR_len {r : α → List V} {s : Nat} (h : ∀ x, (r x).length = s) : ∀ l : List α, (flR r l).length = l.length * s
  | [] => by simp [flR]
  | x :: l => by rw [flR_cons, List.length_append, h, flR_len h l, List.length_cons, Nat.succ_mul]; omega
theorem flR_drop {r : α → List V} {s : Nat} (h : ∀ x, (r x).length = s) : ∀ (l : List α) (j : Nat), (flR r l).drop (j * s) = flR r (l.drop j)
  | [], j => by simp [flR]
  | x :: l, 0 => by simp
  | x :: l, j + 1 => by
    rw [flR_cons, List.drop_succ_cons, ← flR_drop h l j, List.drop_append, h, Nat.succ_mul]
    rw [List.drop_eq_nil_of_le (by rw [h]; omega), List.nil_append]
    congr 1
    omega
theorem drop_next {r : α → List V} {l : List α} {j : Nat} (hj : j < l.length) : flR r (l.drop j) = r l[j] ++ flR r (l.drop (j + 1)) := by
  rw [List.drop_eq_getElem_cons hj, flR_cons]
/-- What a row's block holds while rows are moved up: j are looked at, `m` of these stay. -/
structure MvB (r : α → List V) (s : Nat) (l : List α) (p : α → Bool) (j : Nat) (vs : List V) : Prop where
  len : vs.length = l.length * s
  hd : vs.take (((l.take j).filter p).length * s) = flR r ((l.take j).filter p)
  tl : vs.drop (j * s) = flR r (l.drop j)
theorem MvB.start {r : α → List V} {s : Nat} (h : ∀ x, (r x).length = s) (l : List α) (p : α → Bool) (j : Nat) (hp : ∀ x ∈ l.take j, p x = true) : MvB r s l p j (flR r l) := by
  have hf : (l.take j).filter p = l.take j := List.filter_eq_self.2 hp
  refine ⟨flR_len h l, ?_, flR_drop h l j⟩
  rw [hf]
  have h1 : flR r l = flR r (l.take j) ++ flR r (l.drop j) := by rw [← flR_app, List.take_append_drop]
  rw [h1, ← flR_len h (l.take j), List.take_left']
  rfl
theorem filter_take_succ {l : List α} {p : α → Bool} {j : Nat} (hj : j < l.length) : (l.take (j + 1)).filter p = (l.take j).filter p ++ if p l[j] then [l[j]] else [] := by
  rw [List.take_succ_eq_append_getElem hj, List.filter_append]
  congr 1
  cases hb : p l[j] <;> simp [hb]
theorem filter_take_le {l : List α} {p : α → Bool} {j : Nat} : ((l.take j).filter p).length ≤ j := by
  have h1 := List.length_filter_le p (l.take j)
  have h2 := List.length_take_le j l
  omega
theorem MvB.skip {r : α → List V} {s : Nat} (h : ∀ x, (r x).length = s) {l : List α} {p : α → Bool} {j : Nat} {vs : List V} (hj : j < l.length) (hp : p l[j] = false) (m : MvB r s l p j vs) : MvB r s l p (j + 1) vs := by
  have hf : (l.take (j + 1)).filter p = (l.take j).filter p := by rw [filter_take_succ hj, hp]; simp
  refine ⟨m.len, ?_, ?_⟩
  · rw [hf]; exact m.hd
  · rw [Nat.succ_mul, ← List.drop_drop, m.tl, drop_next hj, List.drop_left' (h _)]
theorem MvB.move {r : α → List V} {s : Nat} (h : ∀ x, (r x).length = s) {l : List α} {p : α → Bool} {j : Nat} {vs : List V} (hj : j < l.length) (hp : p l[j] = true) (m : MvB r s l p j vs) :
    MvB r s l p (j + 1) (setRange vs (((l.take j).filter p).length * s) (r l[j])) := by
  have hf : (l.take (j + 1)).filter p = (l.take j).filter p ++ [l[j]] := by rw [filter_take_succ hj, hp]; simp
  have hle := filter_take_le (l := l) (p := p) (j := j)
  generalize hi : ((l.take j).filter p).length = i at hle
  have hlen := m.len
  have h1 : (j + 1) * s ≤ l.length * s := Nat.mul_le_mul_right s hj
  have h2 : i * s ≤ j * s := Nat.mul_le_mul_right s hle
  have h3 : (j + 1) * s = j * s + s := Nat.succ_mul j s
  have hhd := m.hd
  rw [hi] at hhd
  refine ⟨?_, ?_, ?_⟩
  · unfold setRange
    simp only [List.length_append, List.length_take, List.length_drop, h]
    omega
  · rw [hf, List.length_append, hi, List.length_singleton, Nat.succ_mul, flR_app]
    unfold setRange
    rw [List.append_assoc, List.take_append, hhd]
    have hl1 : (flR r ((l.take j).filter p)).length = i * s := by rw [flR_len h, hi]
    rw [List.take_of_length_le (by rw [hl1]; omega), hl1, show i * s + s - i * s = s by omega]
    rw [List.take_left' (h _)]
    simp [flR]
  · unfold setRange
    rw [List.drop_append, List.drop_append]
    have e1 : (vs.take (i * s)).length = i * s := by rw [List.length_take]; omega
    rw [List.drop_eq_nil_of_le (by rw [e1]; omega), e1, List.length_append, e1, h, List.drop_eq_nil_of_le (by rw [h]; omega), List.drop_drop]
    rw [List.nil_append, List.nil_append]
    have e2 : i * s + s + ((j + 1) * s - (i * s + s)) = (j + 1) * s := by omega
    rw [e2, h3, ← List.drop_drop, m.tl, drop_next hj, List.drop_left' (h _)]
theorem chunks_flR {r : α → List V} {s : Nat} (h : ∀ x, (r x).length = s) : ∀ (l : List α) (vs : List V), vs.take (l.length * s) = flR r l → l.length * s ≤ vs.length → chunks s l.length vs = l.map r
  | [], _, _, _ => rfl
  | x :: l, vs, he, hl => by
    rw [flR_cons, List.length_cons, Nat.succ_mul] at he
    rw [List.length_cons, Nat.succ_mul] at hl
    show vs.take s :: chunks s l.length (vs.drop s) = r x :: l.map r
    have h1 : vs.take s = r x := by
      have := congrArg (List.take s) he
      rw [List.take_take, Nat.min_eq_left (by omega), List.take_left' (h _)] at this
      exact this
    have h2 : (vs.drop s).take (l.length * s) = flR r l := by
      have := congrArg (List.drop s) he
      rw [List.drop_take, List.drop_left' (h _)] at this
      rw [← this]
      congr 1
      omega
    rw [h1, chunks_flR h l (vs.drop s) h2 (by rw [List.length_drop]; omega)]
/-- All the cells of the block are the rows' own, or zeros. -/
theorem setRange_mem {vs cs : List V} {off : Nat} {v : V} (h : v ∈ setRange vs off cs) : v ∈ vs ∨ v ∈ cs := by
  unfold setRange at h
  simp only [List.mem_append] at h
  rcases h with (h | h) | h
  · exact .inl (List.mem_of_mem_take h)
  · exact .inr h
  · exact .inl (List.mem_of_mem_drop h)
theorem set_scoped {H : Heap} {k : Nat} {t : TypeId} {vs : List V} (hs : Scoped H) (hv : ∀ v ∈ vs, v.Free) : Scoped (H.set k (some (.cells t vs))) := by
  intro id b h
  rw [List.length_set]
  rw [List.getElem?_set] at h
  split at h
  · split at h
    · cases h
      exact BW.free hv
    · cases h
  · exact hs id b h
end Go.Abs.Sig

/-! LRASig1 -/
namespace Go.Abs.Sig
open Go.RowKit Go.Abs
set_option linter.unusedSimpArgs false
set_option linter.unusedVariables false
set_option maxRecDepth 8000
attribute [local irreducible] StCall StYield WPc Weak IterOf

structure Row where
  c : Int
  i : Int
  s : List UInt8
  sd : Int
  r0 : Int
  r1 : Int

def tab : List (Int × Int × List UInt8 × Int × Int × Int) := [
  (10, 10, [111, 111, 84, 76, 76], 2, 11, 0),
  (10, 11, [84, 83, 76, 83], 1, 0, 0),
  (10, 20, [76], 2, 21, 0),
  (10, 21, [76], 1, 0, 0),
  (10, 30, [115, 108, 115], 2, 31, 0),
  (10, 31, [115, 108, 115], 1, 0, 0),
  (10, 40, [83, 83, 98], 1, 41, 0),
  (10, 41, [83], 2, 0, 0),
  (10, 50, [115, 83, 115, 115], 3, 51, 0),
  (10, 51, [], 3, 0, 0),
  (10, 60, [83], 2, 0, 0),
  (10, 61, [], 2, 0, 0),
  (20, 10, [83], 1, 11, 0),
  (20, 11, [76], 2, 0, 0),
  (20, 20, [98], 3, 21, 0),
  (20, 21, [98], 3, 0, 0),
  (20, 40, [115, 83, 115, 115], 3, 41, 0),
  (20, 41, [], 3, 0, 0),
  (40, 10, [115, 83, 83, 98, 98, 98, 98, 98, 84], 1, 11, 0),
  (40, 11, [], 2, 0, 0),
  (40, 20, [115, 83, 98, 98], 1, 21, 0),
  (40, 21, [], 2, 0, 0),
  (50, 10, [115, 83, 98, 98, 98, 98, 98, 84], 1, 11, 0),
  (50, 11, [83, 108, 108], 2, 0, 0),
  (50, 20, [115, 83, 83, 83, 98, 84], 1, 21, 0),
  (50, 21, [], 2, 0, 0),
  (50, 30, [115, 83, 98], 1, 31, 0),
  (50, 31, [108], 2, 0, 0),
  (50, 40, [115, 83, 98, 98, 98], 1, 41, 0),
  (50, 41, [108], 2, 0, 0),
  (50, 50, [115, 83, 83, 83, 84], 1, 51, 0),
  (50, 51, [], 2, 0, 0),
  (60, 10, [108, 115, 98], 1, 11, 0),
  (60, 11, [], 2, 0, 0),
  (60, 20, [115, 83, 83, 98, 98, 98, 98, 84], 1, 21, 0),
  (60, 21, [83], 2, 0, 0),
  (60, 30, [83, 98], 1, 31, 0),
  (60, 31, [83], 2, 0, 0),
  (60, 40, [115, 83, 83, 98, 98], 1, 0, 0),
  (60, 50, [115, 83, 83, 83], 2, 0, 0),
  (60, 60, [83, 113, 98, 83, 83], 2, 0, 0),
  (60, 70, [115, 83, 98], 1, 71, 72),
  (60, 71, [113, 98, 83, 83, 108], 2, 0, 0),
  (60, 72, [83], 2, 0, 0),
  (60, 80, [113, 98], 3, 0, 0),
  (60, 90, [113, 98], 1, 0, 0),
  (60, 100, [98], 1, 0, 0),
  (60, 110, [98], 1, 111, 0),
  (60, 111, [], 2, 0, 0),
  (60, 120, [113, 98, 98], 3, 0, 0),
  (85, 10, [98], 1, 11, 0),
  (85, 11, [], 2, 0, 0),
  (90, 10, [], 1, 11, 0),
  (90, 11, [], 2, 0, 0),
  (90, 20, [], 1, 21, 0),
  (90, 21, [], 2, 0, 0),
  (90, 30, [], 1, 31, 0),
  (90, 31, [], 2, 0, 0)]

def rcells (r : Int × Int × List UInt8 × Int × Int × Int) : List V := [.int .i64 r.1, .int .i64 r.2.1, .str r.2.2.1, .int .i64 r.2.2.2.1, .int .i64 r.2.2.2.2.1, .int .i64 r.2.2.2.2.2]

def rowsV : List V := (tab.map rcells).flatten


set_option maxRecDepth 100000 in
theorem rows_ct0 (G : Nat → Option (List V)) : Call2 Go.Proofs.Tryz.prog G 161 [] [] fun r H' => r = .agg rowsV := by
  refine stCall2 Go.Proofs.Tryz.func161 rfl (by decide) ?_
  conv => whnf
  rfl

theorem rows_free : (V.agg rowsV).Free := .agg _ fun v hv => by
  unfold rowsV at hv
  rw [List.mem_flatten] at hv
  obtain ⟨l, hl, hv⟩ := hv
  rw [List.mem_map] at hl
  obtain ⟨r, _, rfl⟩ := hl
  simp only [rcells, List.mem_cons, List.not_mem_nil, or_false] at hv
  rcases hv with rfl | rfl | rfl | rfl | rfl | rfl
  · exact .im _
  · exact .im _
  · exact .str _
  · exact .im _
  · exact .im _
  · exact .im _

theorem rows_ct (G : Nat → Option (List V)) (H : Heap) : Call2 Go.Proofs.Tryz.prog G 161 [] H fun r H' => H' = H ∧ r = .agg rowsV :=
  Call2.free (fun v hv => by cases hv) ((rows_ct0 G).mono fun r H' h => ⟨h ▸ rows_free, h⟩) H

theorem rows_drop (i : Nat) (r) (h : tab[i]? = some r) : ∃ rest, rowsV.drop (i * 6) = rcells r ++ rest := by
  have gen : ∀ (t : List (Int × Int × List UInt8 × Int × Int × Int)) (i : Nat) (r), t[i]? = some r → ∃ rest, ((t.map rcells).flatten).drop (i * 6) = rcells r ++ rest := by
    intro t
    induction t with
    | nil => intro i r h; simp at h
    | cons x t ih =>
      intro i r h
      cases i with
      | zero =>
        simp only [List.getElem?_cons_zero, Option.some.injEq] at h
        subst h
        exact ⟨(t.map rcells).flatten, by simp⟩
      | succ i =>
        obtain ⟨rest, hr⟩ := ih i r (by simpa using h)
        refine ⟨rest, ?_⟩
        rw [← hr]
        have : (i + 1) * 6 = (rcells x).length + i * 6 := by simp [rcells]; omega
        rw [List.map_cons, List.flatten_cons, this, List.drop_append]
        simp
  exact gen tab i r h

theorem tab_length : tab.length = 58 := rfl

theorem rcells_agg (n : Nat) (r) : VW n (.agg (rcells r)) (.agg (rcells r)) := .agg _ _ rfl fun j v v' h1 h2 => by
  rw [h1] at h2
  cases h2
  have := List.mem_of_getElem? h1
  simp only [rcells, List.mem_cons, List.not_mem_nil, or_false] at this
  rcases this with rfl | rfl | rfl | rfl | rfl | rfl
  · exact .im _
  · exact .im _
  · exact .str _
  · exact .im _
  · exact .im _
  · exact .im _

theorem methods1_ct (G : Nat → Option (List V)) : IterOf Go.Proofs.Tryz.prog G 160 [] [] (tab.map fun r => [V.agg (rcells r)]) fun _ => True := by
  refine IterOf.mk fun id n Inv Fin H hI hF hy hend h0 hs => ?_
  obtain ⟨hn, hid, _⟩ := hI 0 H h0
  refine StCall.cut ?_
  refine (stCall2 Go.Proofs.Tryz.func160 rfl (by decide) ?_).2
  conv => whnf
  refine (rows_ct G H).mono fun r0 H0 h => ?_
  obtain ⟨h1, h2⟩ := h
  rw [h1, h2]
  conv => whnf
  intro hw
  refine wpc_loop2 (fun m s1 => ∃ i H', m = 58 - i ∧ i ≤ 58 ∧ Inv i H' ∧ Scoped H' ∧ s1 = headS 13 [.yld id, .bad, .bad, .bad, .agg rowsV, .int .i64 (i : Int), .bad, .bad, .bad, .bad, .bad, .bad, .bad] H' [] none) 58
    (headS 13 [.yld id, .bad, .bad, .bad, .agg rowsV, .int .i64 0, .bad, .bad, .bad, .bad, .bad, .bad, .bad] H [] none) ?_ ⟨0, H, rfl, by omega, h0, hs, rfl⟩ ?_ ?_
  · refine weak2 hw rfl ?_ hs.bws (fun id hid => by cases hid) rfl (fun id hid => by cases hid)
    conv => whnf
    refine ⟨.yld _ (by omega), ?_⟩
    conv => whnf
    refine ⟨.free rows_free, ?_⟩
    conv => whnf
    refine ⟨.int rfl, ?_⟩
    conv => whnf
    trivial
  · rintro m s1 ⟨i, H', rfl, hi, hI', hs', rfl⟩
    refine ⟨⟨Nat.le_refl 13, fun x hx => by cases hx⟩, rfl, ?_, rfl⟩
    show H.length ≤ H'.length
    rw [(hI i H' hI').1, ← hn]
    exact Nat.le_refl _
  · rintro m s1 ⟨i, H', rfl, hi, hI', hs', rfl⟩
    have hn' := (hI i H' hI').1
    conv => whnf
    refine br_intro (fun hlt => ?_) (fun hge => ?_)
    · simp only [decide_eq_true_eq] at hlt
      have hi58 : i < 58 := by omega
      obtain ⟨r, hr⟩ : ∃ r, tab[i]? = some r := ⟨tab[i], List.getElem?_eq_getElem (by rw [tab_length]; exact hi58)⟩
      obtain ⟨rest, hrest⟩ := rows_drop i r hr
      conv => whnf
      refine grd_intro (by simp; omega) ?_
      refine evLoadCells2_congr (vs' := rcells r ++ rest) hrest ?_
      conv => whnf
      try simp only [List.append_assoc, List.cons_append, List.nil_append, List.length_append, List.length_cons, List.length_nil, Nat.zero_add, Nat.add_assoc, Nat.reduceAdd, ga0, ga1, ga2, ga3, ga4, ga5, sa0, sa1, sa2, sa3, sa4, sa5, S2.setH_H, List.all_cons, List.all_nil, isDefd, nodupB, List.any_nil, Bool.and_true, Bool.not_false, List.foldl_cons, List.foldl_nil]
      conv => whnf
      try simp only [List.append_assoc, List.cons_append, List.nil_append, List.length_append, List.length_cons, List.length_nil, Nat.zero_add, Nat.add_assoc, Nat.reduceAdd, ga0, ga1, ga2, ga3, ga4, ga5, sa0, sa1, sa2, sa3, sa4, sa5, S2.setH_H, List.all_cons, List.all_nil, isDefd, nodupB, List.any_nil, Bool.and_true, Bool.not_false, List.foldl_cons, List.foldl_nil]
      conv => whnf
      have hx : (tab.map fun r => [V.agg (rcells r)])[i]? = some [V.agg (rcells r)] := by rw [List.getElem?_map, hr]; rfl
      refine ((hy i _ H' hx hI' hs').frame [some (.cells 127 (rcells r))] hs' ?_ ?_ ).mono ?_
      · intro v hv
        simp only [List.mem_cons, List.not_mem_nil, or_false] at hv
        subst hv
        exact ⟨rcells_agg _ r, rfl⟩
      · intro c hc
        simp [heapCls, Blk.hasCls, V.hasCls, rcells] at hc
      · rintro r1 H1 ⟨H3, rfl, hl3, hs3, h5⟩
        rcases h5 with ⟨rfl, h6⟩ | ⟨rfl, h6⟩
        · conv => whnf
          intro hw2
          refine ⟨58 - (i + 1), headS 13 [.yld id, .bad, .bad, .bad, .agg rowsV, .int .i64 ((i + 1 : Nat) : Int), .bad, .bad, .bad, .bad, .bad, .bad, .bad] H3 [] none, by omega, ?_, i + 1, H3, rfl, by omega, h6, hs3, rfl⟩
          refine weak2 hw2 rfl ?_ (bws_app hs3) (fun id hid => by cases hid) rfl (fun id hid => by cases hid)
          conv => whnf
          refine ⟨.yld _ (by omega), ?_⟩
          conv => whnf
          refine ⟨.free rows_free, ?_⟩
          conv => whnf
          refine ⟨.int ?_, ?_⟩
          · rw [wrap_i64 (by omega) (by omega)]
            rfl
          conv => whnf
          trivial
        · conv => whnf
          exact ⟨H3, .app hs3 (by omega), .unit _, h6⟩
    · simp only [decide_eq_false_iff_not] at hge
      have hi58 : i = 58 := by omega
      subst hi58
      conv => whnf
      exact ⟨H', Cut.self (H1 := H') hs' (by omega), .unit _, hend H' hI'⟩



end Go.Abs.Sig

/-! LRASig2 -/
namespace Go.Abs.Sig
open Go.RowKit Go.Abs
set_option linter.unusedSimpArgs false
set_option linter.unusedVariables false
set_option maxRecDepth 8000
attribute [local irreducible] StCall StYield WPc Weak IterOf

abbrev Row' := Int × Int × List UInt8 × Int × Int × Int

def zrow : Row' := (0, 0, [], 0, 0, 0)

theorem methods_ct (G : Nat → Option (List V)) (H : Heap) : Call2 Go.Proofs.Tryz.prog G 141 [] H fun r H' => H' = H ∧ r = .fn (.func 160) [] [] := by
  refine stCall2 Go.Proofs.Tryz.func141 rfl (by decide) ?_
  conv => whnf
  exact ⟨rfl, rfl⟩

theorem fnOk29 : fnOk Go.Proofs.Tryz.prog 160 := ⟨_, Go.Proofs.Tryz.func160, rfl, by decide⟩

theorem rcells_free' (r : Row') : ∀ v ∈ rcells r, v.Free := fun v hv => by
  simp only [rcells, List.mem_cons, List.not_mem_nil, or_false] at hv
  rcases hv with rfl | rfl | rfl | rfl | rfl | rfl
  · exact .im _
  · exact .im _
  · exact .str _
  · exact .im _
  · exact .im _
  · exact .im _

theorem rcells_free (r : Row') : (V.agg (rcells r)).Free := .agg _ (rcells_free' r)

theorem find_first {α : Type} (p : α → Bool) : ∀ (l : List α) (i : Nat) (r : α), l[i]? = some r → p r = true → (∀ x ∈ l.take i, p x = false) → l.find? p = some r
  | [], i, r, h, _, _ => by simp at h
  | x :: l, 0, r, h, hp, _ => by
    simp at h
    subst h
    simp [hp]
  | x :: l, i + 1, r, h, hp, hf => by
    have hx : p x = false := hf x (by simp)
    rw [List.find?_cons, hx]
    exact find_first p l i r (by simpa using h) hp fun y hy => hf y (by simp [hy])

theorem find_none' {α : Type} (p : α → Bool) (l : List α) (h : ∀ x ∈ l, p x = false) : l.find? p = none := by
  rw [List.find?_eq_none]
  intro x hx
  simp [h x hx]

theorem find_ct (G : Nat → Option (List V)) (g : FuncId) (caps : List V) (p : Row' → Bool) (H : Heap) (hcls : ∀ c, heapCls H c = false) (hcaps : ∀ v ∈ caps, VW H.length v v ∧ v.strip = v)
    (hg : ∀ r ∈ tab, Call2 Go.Proofs.Tryz.prog G g ([.agg (rcells r)] ++ caps) H fun v H' => H' = H ∧ v = .bool (p r)) :
    Call2 Go.Proofs.Tryz.prog G 116 [.fn (.func g) [] caps] H fun v H' => H' = H ∧ v = match tab.find? p with
      | some r => .tup [.agg (rcells r), .bool true]
      | none => .tup [.agg (rcells zrow), .bool false] := by
  refine Call2.inScope ⟨_, Go.Proofs.Tryz.func116, rfl, by decide⟩ fun hs => ?_
  refine Call2.cut ?_
  refine stCall2 Go.Proofs.Tryz.func116 rfl (by decide) ?_
  conv => whnf
  refine (methods_ct G _).mono fun r0 H0 h => ?_
  obtain ⟨h1, h2⟩ := h
  rw [h1, h2]
  conv => whnf
  intro hw
  have hTl : ∀ x ∈ (tab.map fun r => [V.agg (rcells r)]), x.length = 1 := fun x hx => by
    obtain ⟨r, _, rfl⟩ := List.mem_map.1 hx
    rfl
  have hfn : VW (H.length + 3) (.fn (.func g) [] caps) (.fn (.func g) [] caps) := .fn _ _ _ (fun i v h => by simp at h) fun i v h => ((hcaps v (List.mem_of_getElem? h)).1).mono (by omega)
  refine WPc.weak (σ0 := (headS 12 [.fn (.func g) [] caps, .ptr H.length 0, .ptr (H.length + 1) 0, .ptr (H.length + 2) 0, .bad, .fn (.func 160) [] [], .bad, .bad, .bad, .bad, .bad, .bad] (H ++ [some (.cells 175 [.fn (.func g) [] caps]), some (.cells 127 (rcells zrow)), some (.cells 4 [.bool false])]) [] none).st) ?_ ?_ ?_
  · refine weak2 hw rfl ?_ ?_ (fun id hid => by cases hid) rfl (fun id hid => by cases hid)
    · conv => whnf
      refine ⟨hfn.mono (by simp), ?_⟩
      conv => whnf
      refine ⟨.ptrE rfl (by simp), ?_⟩
      conv => whnf
      refine ⟨.ptrE (by simp) (by simp), ?_⟩
      conv => whnf
      refine ⟨.ptrE (by simp) (by simp), ?_⟩
      conv => whnf
      refine ⟨.free (.fn _ _ _ (fun v h => by cases h) (fun v h => by cases h)), ?_⟩
      conv => whnf
      trivial
    · have hsc : Scoped (H ++ [some (.cells 175 [.fn (.func g) [] caps]), some (.cells 127 (rcells zrow)), some (.cells 4 [.bool false])]) := hs.app fun b hb => by
        simp only [List.mem_cons, Option.some.injEq, List.not_mem_nil, or_false] at hb
        rcases hb with rfl | rfl | rfl
        · exact .cells _ _ _ (.cons hfn .nil)
        · exact .free (rcells_free' zrow)
        · exact .free fun v hv => by
            simp only [List.mem_cons, List.not_mem_nil, or_false] at hv
            subst hv
            exact .im _
      have := hsc.bws
      simp only [List.length_append, List.length_cons, List.length_nil, Nat.zero_add, Nat.reduceAdd] at this
      show BWs (H ++ [_, _, _]).length (H ++ [_] ++ [_] ++ [_]) (H ++ [_, _, _])
      try simp only [List.append_assoc, List.cons_append, List.nil_append, List.length_append, List.length_cons, List.length_nil, Nat.zero_add, Nat.add_assoc, Nat.reduceAdd, ga0, ga1, ga2, ga3, ga4, ga5, sa0, sa1, sa2, sa3, sa4, sa5, S2.setH_H, List.all_cons, List.all_nil, isDefd, nodupB, List.any_nil, Bool.and_true, Bool.not_false, List.foldl_cons, List.foldl_nil]
      exact this
  · show (H ++ [_] ++ [_] ++ [_]).length ≤ (H ++ [_, _, _]).length
    simp
  clear hw h1 h2
  refine wpc_rangeIter2 (methods1_ct G) (Nat.le_refl 12) rfl rfl fnOk29 (fun i H' => H' = H ++ [some (.cells 175 [.fn (.func g) [] caps]), some (.cells 127 (rcells zrow)), some (.cells 4 [.bool false])] ∧ ∀ r ∈ tab.take i, p r = false) ?_ ?_ ?_ hTl ?_ ?_
  · exact ⟨rfl, fun r hr => by simp at hr⟩
  · rintro i H' ⟨rfl, _⟩; rfl
  · rintro i H' _; trivial
  · rintro i x H' hx ⟨rfl, hp⟩ hl hs'
    rw [List.getElem?_map] at hx
    obtain ⟨r, hr, rfl⟩ := Option.map_eq_some_iff.1 hx
    conv => whnf
    unfold loopH
    try simp only [List.append_assoc, List.cons_append, List.nil_append, List.length_append, List.length_cons, List.length_nil, Nat.zero_add, Nat.add_assoc, Nat.reduceAdd, ga0, ga1, ga2, ga3, ga4, ga5, sa0, sa1, sa2, sa3, sa4, sa5, S2.setH_H, List.all_cons, List.all_nil, isDefd, nodupB, List.any_nil, Bool.and_true, Bool.not_false, List.foldl_cons, List.foldl_nil]
    conv => whnf
    refine ⟨trivial, ?_, ?_⟩
    · try simp only [List.append_assoc, List.cons_append, List.nil_append, List.length_append, List.length_cons, List.length_nil, Nat.zero_add, Nat.add_assoc, Nat.reduceAdd, ga0, ga1, ga2, ga3, ga4, ga5, sa0, sa1, sa2, sa3, sa4, sa5, S2.setH_H, List.all_cons, List.all_nil, isDefd, nodupB, List.any_nil, Bool.and_true, Bool.not_false, List.foldl_cons, List.foldl_nil]
    conv => whnf
    try simp only [List.append_assoc, List.cons_append, List.nil_append, List.length_append, List.length_cons, List.length_nil, Nat.zero_add, Nat.add_assoc, Nat.reduceAdd, ga0, ga1, ga2, ga3, ga4, ga5, sa0, sa1, sa2, sa3, sa4, sa5, S2.setH_H, List.all_cons, List.all_nil, isDefd, nodupB, List.any_nil, Bool.and_true, Bool.not_false, List.foldl_cons, List.foldl_nil]
    conv => whnf
    try simp only [List.append_assoc, List.cons_append, List.nil_append, List.length_append, List.length_cons, List.length_nil, Nat.zero_add, Nat.add_assoc, Nat.reduceAdd, ga0, ga1, ga2, ga3, ga4, ga5, sa0, sa1, sa2, sa3, sa4, sa5, S2.setH_H, List.all_cons, List.all_nil, isDefd, nodupB, List.any_nil, Bool.and_true, Bool.not_false, List.foldl_cons, List.foldl_nil]
    conv => whnf
    have hcm : caps.map V.strip = caps := (List.map_congr_left fun v hv => (hcaps v hv).2).trans (List.map_id' caps)
    have hg' : Call2 Go.Proofs.Tryz.prog G g ([.agg (rcells r)] ++ caps.map V.strip) H fun v H' => H' = H ∧ v = .bool (p r) := by
      rw [hcm]
      exact hg r (List.mem_of_getElem? hr)
    refine (hg'.frame' _ hs ?_ ?_).mono ?_
    · intro v hv
      rw [hcm, List.mem_append] at hv
      rcases hv with hv | hv
      · simp only [List.mem_cons, List.not_mem_nil, or_false] at hv
        subst hv
        exact ⟨.free (rcells_free r), rfl⟩
      · exact hcaps v hv
    · exact fun c _ => hcls c
    · rintro v1 H1 ⟨rfl, rfl⟩
      conv => whnf
      refine br_intro (fun hpr => ?_) (fun hpr => ?_)
      · iterate 4 (conv => whnf; try simp only [List.append_assoc, List.cons_append, List.nil_append, List.length_append, List.length_cons, List.length_nil, Nat.zero_add, Nat.add_assoc, Nat.reduceAdd, ga0, ga1, ga2, ga3, ga4, ga5, sa0, sa1, sa2, sa3, sa4, sa5, S2.setH_H, List.all_cons, List.all_nil, isDefd, nodupB, List.any_nil, Bool.and_true, Bool.not_false, List.foldl_cons, List.foldl_nil])
        refine ⟨H ++ [some (.cells 175 [.fn (.func g) [] caps]), some (.cells 127 (rcells r)), some (.cells 4 [.bool true])], [some (.cells 127 (rcells r))], ?_, ?_, ?_, ?_⟩
        · unfold loopH
          try simp only [List.append_assoc, List.cons_append, List.nil_append, List.length_append, List.length_cons, List.length_nil, Nat.zero_add, Nat.add_assoc, Nat.reduceAdd, ga0, ga1, ga2, ga3, ga4, ga5, sa0, sa1, sa2, sa3, sa4, sa5, S2.setH_H, List.all_cons, List.all_nil, isDefd, nodupB, List.any_nil, Bool.and_true, Bool.not_false, List.foldl_cons, List.foldl_nil]
          rfl
        · try simp only [List.append_assoc, List.cons_append, List.nil_append, List.length_append, List.length_cons, List.length_nil, Nat.zero_add, Nat.add_assoc, Nat.reduceAdd, ga0, ga1, ga2, ga3, ga4, ga5, sa0, sa1, sa2, sa3, sa4, sa5, S2.setH_H, List.all_cons, List.all_nil, isDefd, nodupB, List.any_nil, Bool.and_true, Bool.not_false, List.foldl_cons, List.foldl_nil]
        · intro id b hb
          by_cases hid : id < H.length
          · rw [List.getElem?_append_left hid] at hb
            exact .inl (by rw [List.getElem?_append_left hid]; exact hb)
          · right
            rw [List.getElem?_append_right (by omega)] at hb
            have hb := List.mem_of_getElem? hb
            simp only [List.mem_cons, Option.some.injEq, List.not_mem_nil, or_false] at hb
            rcases hb with rfl | rfl | rfl
            · exact .cells _ _ _ (.cons (hfn.mono (by simp)) .nil)
            · exact .free (rcells_free' r)
            · exact .free fun v hv => by
                simp only [List.mem_cons, List.not_mem_nil, or_false] at hv
                subst hv
                exact .im _
        · iterate 4 (conv => whnf; try simp only [List.append_assoc, List.cons_append, List.nil_append, List.length_append, List.length_cons, List.length_nil, Nat.zero_add, Nat.add_assoc, Nat.reduceAdd, ga0, ga1, ga2, ga3, ga4, ga5, sa0, sa1, sa2, sa3, sa4, sa5, S2.setH_H, List.all_cons, List.all_nil, isDefd, nodupB, List.any_nil, Bool.and_true, Bool.not_false, List.foldl_cons, List.foldl_nil])
          have hfind := find_first p tab i r hr hpr hp
          rw [hfind]
          exact ⟨H, Cut.app hs rfl, .free (.tup _ fun v hv => by
            simp only [List.mem_cons, List.not_mem_nil, or_false] at hv
            rcases hv with rfl | rfl
            · exact rcells_free r
            · exact .im _), rfl, rfl⟩
      · iterate 4 (conv => whnf; try simp only [List.append_assoc, List.cons_append, List.nil_append, List.length_append, List.length_cons, List.length_nil, Nat.zero_add, Nat.add_assoc, Nat.reduceAdd, ga0, ga1, ga2, ga3, ga4, ga5, sa0, sa1, sa2, sa3, sa4, sa5, S2.setH_H, List.all_cons, List.all_nil, isDefd, nodupB, List.any_nil, Bool.and_true, Bool.not_false, List.foldl_cons, List.foldl_nil])
        refine ⟨H ++ [some (.cells 175 [.fn (.func g) [] caps]), some (.cells 127 (rcells zrow)), some (.cells 4 [.bool false])], [some (.cells 127 (rcells r))], ?_, ?_, ?_, rfl, ?_⟩
        · unfold loopH
          try simp only [List.append_assoc, List.cons_append, List.nil_append, List.length_append, List.length_cons, List.length_nil, Nat.zero_add, Nat.add_assoc, Nat.reduceAdd, ga0, ga1, ga2, ga3, ga4, ga5, sa0, sa1, sa2, sa3, sa4, sa5, S2.setH_H, List.all_cons, List.all_nil, isDefd, nodupB, List.any_nil, Bool.and_true, Bool.not_false, List.foldl_cons, List.foldl_nil]
          rfl
        · try simp only [List.append_assoc, List.cons_append, List.nil_append, List.length_append, List.length_cons, List.length_nil, Nat.zero_add, Nat.add_assoc, Nat.reduceAdd, ga0, ga1, ga2, ga3, ga4, ga5, sa0, sa1, sa2, sa3, sa4, sa5, S2.setH_H, List.all_cons, List.all_nil, isDefd, nodupB, List.any_nil, Bool.and_true, Bool.not_false, List.foldl_cons, List.foldl_nil]
        · exact fun id b hb => .inl hb
        · intro x hx
          rw [List.take_add_one, hr, List.mem_append] at hx
          rcases hx with hx | hx
          · exact hp x hx
          · simp at hx
            subst hx
            exact hpr
  · rintro H' ⟨rfl, hp⟩
    iterate 5 (conv => whnf; try simp only [List.append_assoc, List.cons_append, List.nil_append, List.length_append, List.length_cons, List.length_nil, Nat.zero_add, Nat.add_assoc, Nat.reduceAdd, ga0, ga1, ga2, ga3, ga4, ga5, sa0, sa1, sa2, sa3, sa4, sa5, S2.setH_H, List.all_cons, List.all_nil, isDefd, nodupB, List.any_nil, Bool.and_true, Bool.not_false, List.foldl_cons, List.foldl_nil])
    have hfind := find_none' p tab fun x hx => hp x (by rw [List.length_map, List.take_length]; exact hx)
    rw [hfind]
    exact ⟨H, Cut.app hs rfl, .free (.tup _ fun v hv => by
      simp only [List.mem_cons, List.not_mem_nil, or_false] at hv
      rcases hv with rfl | rfl
      · exact rcells_free zrow
      · exact .im _), rfl, rfl⟩



end Go.Abs.Sig

/-! LRASig3 -/
namespace Go.Abs.Sig
open Go.RowKit Go.Abs
set_option linter.unusedSimpArgs false
set_option linter.unusedVariables false
set_option maxRecDepth 8000
attribute [local irreducible] StCall StYield WPc Weak IterOf

theorem find_ct' (G : Nat → Option (List V)) (g : FuncId) (caps : List V) (p : Row' → Bool) (H : Heap) (hcls : ∀ c, heapCls H c = false) (hcaps : ∀ v ∈ caps, VW H.length v v ∧ v.strip = v)
    (hg : ∀ r ∈ tab, Call2 Go.Proofs.Tryz.prog G g ([.agg (rcells r)] ++ caps) H fun v H' => H' = H ∧ v = .bool (p r)) :
    Call2 Go.Proofs.Tryz.prog G 116 [.fn (.func g) [] caps] H fun v H' => H' = H ∧ v = .tup [.agg (rcells ((tab.find? p).getD zrow)), .bool (tab.find? p).isSome] :=
  (find_ct G g caps p H hcls hcaps hg).mono fun r H' h => ⟨h.1, by rw [h.2]; cases tab.find? p <;> rfl⟩

/-- The row of a class and an id. -/
def pAt (c i : Int) (r : Row') : Bool := decide (r.1 = c) && decide (r.2.1 = i)
def rowAt (c i : Int) : Row' := (tab.find? (pAt c i)).getD zrow
def isAt (c i : Int) : Bool := (tab.find? (pAt c i)).isSome

theorem eqT98 : (!Go.Program.eqGuardType Go.Proofs.Tryz.prog (Go.Program.depth Go.Proofs.Tryz.prog) 77 && aggT Go.Proofs.Tryz.prog 77) = true := by kernel_rfl
theorem flat98 : flatEq Go.Proofs.Tryz.prog 50 77 = some [.i, .i] := by kernel_rfl
theorem eq98 (a b c d : Int) : cellsEq [.i, .i] [.int .i64 a, .int .i64 b] [.int .i64 c, .int .i64 d] = some (decide (a = c) && (decide (b = d) && true)) := rfl

theorem at1_ct (G : Nat → Option (List V)) (c i : Int) (r : Row') :
    Call2 Go.Proofs.Tryz.prog G 117 [.agg (rcells r), .ptr 0 0, .ptr 1 0] [some (.cells 3 [.int .i64 c]), some (.cells 3 [.int .i64 i]), some (.cells 127 (rcells zrow))]
      fun v H' => H' = [some (.cells 3 [.int .i64 c]), some (.cells 3 [.int .i64 i]), some (.cells 127 (rcells zrow))] ∧ v = .bool (pAt c i r) := by
  refine Call2.inScope ⟨_, Go.Proofs.Tryz.func117, rfl, by decide⟩ fun hs => ?_
  refine Call2.cut ?_
  refine stCall2 Go.Proofs.Tryz.func117 rfl (by decide) ?_
  conv => whnf
  refine EqT.eql eqT98 flat98 (eq98 _ _ _ _) ?_
  conv => whnf
  refine ⟨_, Cut.app (X := [some (.cells 127 (rcells r))]) hs rfl, .im _, rfl, ?_⟩
  simp [pAt, V.strip]

theorem at_ct0 (G : Nat → Option (List V)) (c i : Int) : Call2 Go.Proofs.Tryz.prog G 83 [.int .i64 c, .int .i64 i] [] fun v _ => v = .tup [.agg (rcells (rowAt c i)), .bool (isAt c i)] := by
  refine stCall2 Go.Proofs.Tryz.func83 rfl (by decide) ?_
  conv => whnf
  refine (find_ct' G 117 [.ptr 0 0, .ptr 1 0] (pAt c i) [some (.cells 3 [.int .i64 c]), some (.cells 3 [.int .i64 i]), some (.cells 127 (rcells zrow))] (fun _ => rfl) ?_ fun r _ => at1_ct G c i r).mono ?_
  · intro v hv
    simp only [List.mem_cons, List.not_mem_nil, or_false] at hv
    rcases hv with rfl | rfl
    · exact ⟨.ptr _ _ (by simp), rfl⟩
    · exact ⟨.ptr _ _ (by simp), rfl⟩
  intro r0 H0 h
  obtain ⟨h1, h2⟩ := h
  rw [h1, h2]
  conv => whnf
  rfl

theorem int_free {vs : List Int} : ∀ v ∈ vs.map (V.int .i64), v.Free := fun v hv => by
  obtain ⟨n, _, rfl⟩ := List.mem_map.1 hv
  exact .im _

theorem at_ct (G : Nat → Option (List V)) (c i : Int) (H : Heap) : Call2 Go.Proofs.Tryz.prog G 83 [.int .i64 c, .int .i64 i] H fun v H' => H' = H ∧ v = .tup [.agg (rcells (rowAt c i)), .bool (isAt c i)] :=
  Call2.free (int_free (vs := [c, i])) ((at_ct0 G c i).mono fun r _ h => ⟨by
    rw [h]
    exact .tup _ fun v hv => by
      simp only [List.mem_cons, List.not_mem_nil, or_false] at hv
      rcases hv with rfl | rfl
      · exact rcells_free _
      · exact .im _, h⟩) H

theorem of_ct (G : Nat → Option (List V)) (c i : Int) (H : Heap) : Call2 Go.Proofs.Tryz.prog G 78 [.int .i64 c, .int .i64 i] H fun v H' => H' = H ∧ v = .tup [.str (rowAt c i).2.2.1, .bool (isAt c i)] := by
  refine Call2.free (int_free (vs := [c, i])) ?_ H
  refine stCall2 Go.Proofs.Tryz.func78 rfl (by decide) ?_
  conv => whnf
  refine (at_ct G c i _).mono fun r0 H0 h => ?_
  obtain ⟨h1, h2⟩ := h
  rw [h1, h2]
  conv => whnf
  exact ⟨free_tup2 (.str _) (.im _), rfl⟩

def content (c i : Int) : Bool := decide (c = 60) && (decide (i = 40) || decide (i = 50) || decide (i = 60) || decide (i = 71))

end Go.Abs.Sig

/-! LRASig12 -/
namespace Go.Abs.Sig
open Go.RowKit Go.Abs
set_option linter.unusedSimpArgs false
set_option linter.unusedVariables false
set_option maxRecDepth 8000
attribute [local irreducible] StCall StYield WPc Weak IterOf

end Go.Abs.Sig

/-! LRASig14 -/
namespace Go.Abs.Sig
open Go.RowKit Go.Abs
set_option linter.unusedSimpArgs false
set_option linter.unusedVariables false
set_option maxRecDepth 8000
attribute [local irreducible] StCall StYield WPc Weak IterOf

/-! What is said is the same. -/
end Go.Abs.Sig

/-! LRCode1 -/
namespace Go.Abs.Sig
open Go.RowKit Go.Abs
set_option linter.unusedSimpArgs false
set_option linter.unusedVariables false
set_option maxRecDepth 8000
attribute [local irreducible] StCall StYield WPc Weak IterOf

end Go.Abs.Sig

/-! LRCode2 -/
namespace Go.Abs.Sig
open Go.RowKit Go.Abs
set_option linter.unusedSimpArgs false
set_option linter.unusedVariables false
set_option maxRecDepth 8000
attribute [local irreducible] StCall StYield WPc Weak IterOf

/-- Values of methods, and methods. -/
abbrev Val' := Int × List UInt8
abbrev Met := Int × Int × List Val'
def vals (l : List Val') : List (List V) := l.map fun v => [.int .u64 v.1, .str v.2]
def mcells (m : Met) : List V := [.int .i64 m.1, .int .i64 m.2.1, .dat 2 (vals m.2.2) .no]
theorem mcells_free (m : Met) : (V.agg (mcells m)).Free := .agg _ fun v hv => by
  simp only [mcells, List.mem_cons, List.not_mem_nil, or_false] at hv
  rcases hv with rfl | rfl | rfl
  · exact .im _
  · exact .im _
  · exact .dat _ _ _ (by simp)

def u64 (n : Int) : Int := IntKind.u64.wrap n
end Go.Abs.Sig

/-! LM1 -/
namespace Go.Abs.Sig
open Go.RowKit Go.Abs
set_option linter.unusedSimpArgs false
set_option linter.unusedVariables false
set_option maxRecDepth 8000
attribute [local irreducible] StCall StYield WPc Weak IterOf

def kv (b n : Int) : V × V := (.int .u8 b, .int .i64 n)
def wdsL : List (V × V) := [kv 111 1, kv 115 2, kv 108 4, kv 113 8, kv 98 0]
def txsL : List (V × V) := [kv 83 255, kv 76 131072, kv 84 (-1)]

theorem widths_ct (G : Nat → Option (List V)) (H : Heap) : Call2 Go.Proofs.Tryz.prog G 108 [] H fun v H' => v = .mp H.length ∧ H' = H ++ [some (.map wdsL 5)] := by
  refine stCall2 Go.Proofs.Tryz.func108 rfl (by decide) ?_
  iterate 8 (conv => whnf; try simp only [List.append_assoc, List.cons_append, List.nil_append, List.length_append, List.length_cons, List.length_nil, Nat.zero_add, Nat.add_assoc, Nat.reduceAdd, ga0, ga1, ga2, ga3, ga4, ga5, sa0, sa1, sa2, sa3, sa4, sa5, S2.setH_H, List.all_cons, List.all_nil, isDefd, nodupB, List.any_nil, Bool.and_true, Bool.not_false, List.foldl_cons, List.foldl_nil])
  exact ⟨rfl, rfl⟩

theorem texts_ct (G : Nat → Option (List V)) (H : Heap) : Call2 Go.Proofs.Tryz.prog G 110 [] H fun v H' => v = .mp H.length ∧ H' = H ++ [some (.map txsL 3)] := by
  refine stCall2 Go.Proofs.Tryz.func110 rfl (by decide) ?_
  iterate 6 (conv => whnf; try simp only [List.append_assoc, List.cons_append, List.nil_append, List.length_append, List.length_cons, List.length_nil, Nat.zero_add, Nat.add_assoc, Nat.reduceAdd, ga0, ga1, ga2, ga3, ga4, ga5, sa0, sa1, sa2, sa3, sa4, sa5, S2.setH_H, List.all_cons, List.all_nil, isDefd, nodupB, List.any_nil, Bool.and_true, Bool.not_false, List.foldl_cons, List.foldl_nil])
  exact ⟨rfl, rfl⟩

end Go.Abs.Sig

/-! LM2 -/
namespace Go.Abs.Sig
open Go.RowKit Go.Abs
set_option linter.unusedSimpArgs false
set_option linter.unusedVariables false
set_option maxRecDepth 8000
attribute [local irreducible] StCall StYield WPc Weak IterOf Lp2

theorem full_len : ∀ {n : Nat} {seen : List Nat}, (∀ i, i < n → i ∈ seen) → n ≤ seen.length
  | 0, _, _ => Nat.zero_le _
  | n + 1, seen, h => by
    have hm := h n (by omega)
    have := full_len (n := n) (seen := seen.erase n) fun i hi => (List.mem_erase_of_ne (by omega)).2 (h i (by omega))
    rw [List.length_erase_of_mem hm] at this
    have : 0 < seen.length := List.length_pos_of_mem hm
    omega
theorem nodup_bound : ∀ {n : Nat} {seen : List Nat}, seen.Nodup → (∀ i ∈ seen, i < n) → seen.length ≤ n
  | 0, seen, _, h => by
    cases seen with
    | nil => exact Nat.le_refl _
    | cons x l => exact absurd (h x (by simp)) (by omega)
  | n + 1, seen, hd, h => by
    by_cases hm : n ∈ seen
    · have := nodup_bound (n := n) (seen := seen.erase n) (hd.erase _) fun i hi => by
        have h1 := (hd.mem_erase_iff.1 hi)
        have := h i h1.2
        have := h1.1
        omega
      rw [List.length_erase_of_mem hm] at this
      omega
    · have := nodup_bound (n := n) (seen := seen) hd fun i hi => by
        have := h i hi
        have : i ≠ n := fun he => hm (he ▸ hi)
        omega
      omega
theorem pigeon {n i : Nat} {seen : List Nat} (hd : seen.Nodup) (h : ∀ j ∈ seen, j < n) (hl : n ≤ seen.length) (hi : i < n) : i ∈ seen := by
  by_cases hm : i ∈ seen
  · exact hm
  · have := nodup_bound (n := n) (seen := i :: seen) (List.nodup_cons.2 ⟨hm, hd⟩) fun j hj => by
      rcases List.mem_cons.1 hj with rfl | hj
      · exact hi
      · exact h j hj
    simp only [List.length_cons] at this
    omega

/-- Values and blocks that name no block beyond n: as they stand. -/
def okV1 (n : Nat) : V → Bool
  | .im _ | .str _ | .bad | .rp _ => true
  | .ptr id _ | .mp id => Nat.blt id n
  | _ => false
def okV (n : Nat) : V → Bool
  | .fn _ a b => a.all (okV1 n) && b.all (okV1 n)
  | v => okV1 n v
def okB (n : Nat) : Option Blk → Bool
  | none => true
  | some (.cells _ vs) => vs.all (okV n)
  | some (.map es _) => es.all fun x => okV n x.1 && okV n x.2
  | some (.iter m _ _ _) => Nat.blt m n
  | some .defd => true
  | _ => false
theorem okV1_vw {n : Nat} {v : V} (h : okV1 n v = true) : VW n v v := by
  cases v with
  | im v => exact .im v
  | str l => exact .str l
  | bad => exact .bad _
  | rp cs => exact .rp cs
  | ptr id o => exact .ptr id o (by simp [okV1, Nat.blt] at h; omega)
  | mp id => exact .mp id (by simp [okV1, Nat.blt] at h; omega)
  | _ => cases h
theorem okV_vw {n : Nat} {v : V} (h : okV n v = true) : VW n v v := by
  cases v with
  | fn f a b =>
    simp only [okV, Bool.and_eq_true, List.all_eq_true] at h
    exact .fn f a b (fun i v hv => okV1_vw (h.1 v (List.mem_of_getElem? hv))) fun i v hv => okV1_vw (h.2 v (List.mem_of_getElem? hv))
  | _ => exact okV1_vw h
theorem okB_bw {n : Nat} {b : Option Blk} (h : okB n b = true) : BW n b b := by
  cases b with
  | none => exact .drop _
  | some b =>
    cases b with
    | cells t vs => exact .cells t vs vs (.self fun i v hv => okV_vw (List.all_eq_true.1 h v (List.mem_of_getElem? hv)))
    | map es c =>
      have h2 := List.all_eq_true.1 h
      refine .map es es c (.self fun i v hv => ?_) (.self fun i v hv => ?_)
      · rw [List.getElem?_map] at hv
        obtain ⟨x, hx, rfl⟩ := Option.map_eq_some_iff.1 hv
        have := h2 x (List.mem_of_getElem? hx)
        rw [Bool.and_eq_true] at this
        exact okV_vw this.1
      · rw [List.getElem?_map] at hv
        obtain ⟨x, hx, rfl⟩ := Option.map_eq_some_iff.1 hv
        have := h2 x (List.mem_of_getElem? hx)
        rw [Bool.and_eq_true] at this
        exact okV_vw this.2
    | iter m s st seen => exact .iter m s st seen (by simp [okB, Nat.blt] at h; omega)
    | defd => exact .defd
    | loop => cases h
theorem okH_bws {n : Nat} : ∀ {H : Heap}, H.all (okB n) = true → BWs n H H
  | [], _ => .nil _
  | b :: H, h => by
    simp only [List.all_cons, Bool.and_eq_true] at h
    exact .cons (okB_bw h.1) (okH_bws h.2)

def fW (q : Nat) : V := .fn (.func 109) [] [.ptr 1 0, .ptr q 0]
def fT (q : Nat) : V := .fn (.func 111) [] [.ptr 2 0, .ptr q 0]
def isW (b n : Int) : Prop := (b = 111 ∧ n = 1) ∨ (b = 115 ∧ n = 2) ∨ (b = 108 ∧ n = 4) ∨ (b = 113 ∧ n = 8) ∨ (b = 98 ∧ n = 0)
def isT (b n : Int) : Prop := (b = 83 ∧ n = 255) ∨ (b = 76 ∧ n = 131072) ∨ (b = 84 ∧ n = -1)
theorem wds_kv {i : Nat} {x : V × V} (h : wdsL[i]? = some x) : ∃ b n, x = kv b n ∧ i < 5 ∧ isW b n ∧ ∀ j b' n', wdsL[j]? = some (kv b' n') → j ≠ i → b ≠ b' := by
  have hi : i < 5 := (List.getElem?_eq_some_iff.1 h).1
  have hj : ∀ {j : Nat} {y : V × V}, wdsL[j]? = some y → j < 5 := fun h => (List.getElem?_eq_some_iff.1 h).1
  match i, hi, h with
  | 0, _, h | 1, _, h | 2, _, h | 3, _, h | 4, _, h =>
    cases h
    refine ⟨_, _, rfl, by omega, by simp [isW], fun j b' n' h2 hne => ?_⟩
    have := hj h2
    match j, this, h2 with
    | 0, _, h2 | 1, _, h2 | 2, _, h2 | 3, _, h2 | 4, _, h2 => cases h2; first | omega | decide
theorem txs_kv {i : Nat} {x : V × V} (h : txsL[i]? = some x) : ∃ b n, x = kv b n ∧ i < 3 ∧ isT b n ∧ ∀ j b' n', txsL[j]? = some (kv b' n') → j ≠ i → b ≠ b' := by
  have hi : i < 3 := (List.getElem?_eq_some_iff.1 h).1
  have hj : ∀ {j : Nat} {y : V × V}, txsL[j]? = some y → j < 3 := fun h => (List.getElem?_eq_some_iff.1 h).1
  match i, hi, h with
  | 0, _, h | 1, _, h | 2, _, h =>
    cases h
    refine ⟨_, _, rfl, by omega, by simp [isT], fun j b' n' h2 hne => ?_⟩
    have := hj h2
    match j, this, h2 with
    | 0, _, h2 | 1, _, h2 | 2, _, h2 => cases h2; first | omega | decide
theorem isWT {b n b' n' : Int} (h : isW b n) (h' : isT b' n') : b' ≠ b := by
  unfold isW at h
  unfold isT at h'
  omega

def cW (n : Int) : Option Blk := some (.cells 161 [.int .i64 n])
def cT (n : Int) : Option Blk := some (.cells 163 [.int .i64 n])
def rgS (H : Heap) : S2 := headS 30 ([.bad, .ptr 1 0, .ptr 2 0, .mp 3, .bad, .bad, .bad, .bad, .bad, .bad, .ptr 5 0] ++ List.replicate 19 .bad) H [] none
def rgS2 (H : Heap) : S2 := headS 30 ([.bad, .ptr 1 0, .ptr 2 0, .mp 3, .bad, .bad, .bad, .bad, .bad, .bad, .bad, .bad, .bad, .bad, .bad, .bad, .bad, .bad, .bad, .bad, .ptr 12 0] ++ List.replicate 9 .bad) H [] none
def rgH (b0 : Option Blk) (es : List (V × V)) (c : Nat) (seen : List Nat) (X : Heap) : Heap := b0 :: some (.cells 160 [.fn (.func 106) [] []]) :: some (.cells 162 [.fn (.func 107) [] []]) :: some (.map es c) :: some (.map wdsL 5) :: some (.iter 4 5 5 seen) :: X

theorem rights_ct0 (G : Nat → Option (List V)) (bk : Option Blk) (hbk : ∀ n, BW n bk bk) : Call2 Go.Proofs.Tryz.prog G 79 [] [bk] fun v H' => v = .mp 3 ∧ ∃ (i0 i1 i2 i3 i4 k0 k1 k2 : Nat) (b0 b1 b2 b3 b4 n0 n1 n2 n3 n4 d0 d1 d2 m0 m1 m2 : Int),
    H' = rgH bk [(.int .u8 b0, fW 6), (.int .u8 b1, fW 7), (.int .u8 b2, fW 8), (.int .u8 b3, fW 9), (.int .u8 b4, fW 10), (.int .u8 d0, fT 13), (.int .u8 d1, fT 14), (.int .u8 d2, fT 15)] 8 [i0, i1, i2, i3, i4] [cW n0, cW n1, cW n2, cW n3, cW n4, some (.map txsL 3), some (.iter 11 3 3 [k0, k1, k2]), cT m0, cT m1, cT m2] ∧ [i0, i1, i2, i3, i4].Nodup ∧ [k0, k1, k2].Nodup ∧ wdsL[i0]? = some (kv b0 n0) ∧ wdsL[i1]? = some (kv b1 n1) ∧ wdsL[i2]? = some (kv b2 n2) ∧ wdsL[i3]? = some (kv b3 n3) ∧ wdsL[i4]? = some (kv b4 n4) ∧ txsL[k0]? = some (kv d0 m0) ∧ txsL[k1]? = some (kv d1 m1) ∧ txsL[k2]? = some (kv d2 m2) := by
  refine stCall2 Go.Proofs.Tryz.func79 rfl (by decide) ?_
  conv => whnf
  refine Call2.mono (widths_ct G _) fun r0 H0 h => ?_
  obtain ⟨h1, h2⟩ := h
  rw [h1, h2]
  clear h1 h2 r0 H0
  conv => whnf
  intro hw
  refine wpc_unroll (n := 30) ?_
  refine lp2_round hw rfl ?_
  conv => whnf
  refine ⟨fun h => absurd (full_len h) (of_decide_eq_false rfl), fun i0 x0 hx0 hn0 => ?_⟩
  obtain ⟨b0, n0, rfl, hi0, hw0, hu0⟩ := wds_kv hx0
  conv => whnf
  refine optK_intro hx0 ?_
  conv => whnf
  intro hv0
  refine ⟨rgS (rgH bk [(.int .u8 b0, fW 6)] 1 [i0] [cW n0]), ?_, Nat.le_refl _, ?_⟩
  · exact weak2 hv0 rfl ⟨.ptr 1 0 (of_decide_eq_true rfl), .ptr 2 0 (of_decide_eq_true rfl), .mp 3 (of_decide_eq_true rfl), .ptr 5 0 (of_decide_eq_true rfl), trivial⟩ (.cons (hbk _) (okH_bws rfl)) (fun id hid => by cases hid) rfl (fun id hid => by cases hid)
  refine lp2_round ⟨Nat.le_refl 30, fun x hx => by cases hx⟩ rfl ?_
  conv => whnf
  refine ⟨fun h => absurd (full_len h) (of_decide_eq_false rfl), fun i1 x1 hx1 hn1 => ?_⟩
  obtain ⟨b1, n1, rfl, hi1, hw1, hu1⟩ := wds_kv hx1
  have hne1_0 : b1 ≠ b0 := hu1 i0 b0 n0 hx0 (fun he => hn1 (by simp [he]))
  conv => whnf
  refine optK_intro hx1 ?_
  conv => whnf
  refine br_f (decide_eq_false hne1_0) ?_
  conv => whnf
  intro hv1
  refine ⟨rgS (rgH bk [(.int .u8 b0, fW 6), (.int .u8 b1, fW 7)] 2 [i0, i1] [cW n0, cW n1]), ?_, Nat.le_refl _, ?_⟩
  · exact weak2 hv1 rfl ⟨.ptr 1 0 (of_decide_eq_true rfl), .ptr 2 0 (of_decide_eq_true rfl), .mp 3 (of_decide_eq_true rfl), .ptr 5 0 (of_decide_eq_true rfl), trivial⟩ (.cons (hbk _) (okH_bws rfl)) (fun id hid => by cases hid) rfl (fun id hid => by cases hid)
  refine lp2_round ⟨Nat.le_refl 30, fun x hx => by cases hx⟩ rfl ?_
  conv => whnf
  refine ⟨fun h => absurd (full_len h) (of_decide_eq_false rfl), fun i2 x2 hx2 hn2 => ?_⟩
  obtain ⟨b2, n2, rfl, hi2, hw2, hu2⟩ := wds_kv hx2
  have hne2_0 : b2 ≠ b0 := hu2 i0 b0 n0 hx0 (fun he => hn2 (by simp [he]))
  have hne2_1 : b2 ≠ b1 := hu2 i1 b1 n1 hx1 (fun he => hn2 (by simp [he]))
  conv => whnf
  refine optK_intro hx2 ?_
  conv => whnf
  refine br_f (decide_eq_false hne2_0) ?_
  conv => whnf
  refine br_f (decide_eq_false hne2_1) ?_
  conv => whnf
  intro hv2
  refine ⟨rgS (rgH bk [(.int .u8 b0, fW 6), (.int .u8 b1, fW 7), (.int .u8 b2, fW 8)] 3 [i0, i1, i2] [cW n0, cW n1, cW n2]), ?_, Nat.le_refl _, ?_⟩
  · exact weak2 hv2 rfl ⟨.ptr 1 0 (of_decide_eq_true rfl), .ptr 2 0 (of_decide_eq_true rfl), .mp 3 (of_decide_eq_true rfl), .ptr 5 0 (of_decide_eq_true rfl), trivial⟩ (.cons (hbk _) (okH_bws rfl)) (fun id hid => by cases hid) rfl (fun id hid => by cases hid)
  refine lp2_round ⟨Nat.le_refl 30, fun x hx => by cases hx⟩ rfl ?_
  conv => whnf
  refine ⟨fun h => absurd (full_len h) (of_decide_eq_false rfl), fun i3 x3 hx3 hn3 => ?_⟩
  obtain ⟨b3, n3, rfl, hi3, hw3, hu3⟩ := wds_kv hx3
  have hne3_0 : b3 ≠ b0 := hu3 i0 b0 n0 hx0 (fun he => hn3 (by simp [he]))
  have hne3_1 : b3 ≠ b1 := hu3 i1 b1 n1 hx1 (fun he => hn3 (by simp [he]))
  have hne3_2 : b3 ≠ b2 := hu3 i2 b2 n2 hx2 (fun he => hn3 (by simp [he]))
  conv => whnf
  refine optK_intro hx3 ?_
  conv => whnf
  refine br_f (decide_eq_false hne3_0) ?_
  conv => whnf
  refine br_f (decide_eq_false hne3_1) ?_
  conv => whnf
  refine br_f (decide_eq_false hne3_2) ?_
  conv => whnf
  intro hv3
  refine ⟨rgS (rgH bk [(.int .u8 b0, fW 6), (.int .u8 b1, fW 7), (.int .u8 b2, fW 8), (.int .u8 b3, fW 9)] 4 [i0, i1, i2, i3] [cW n0, cW n1, cW n2, cW n3]), ?_, Nat.le_refl _, ?_⟩
  · exact weak2 hv3 rfl ⟨.ptr 1 0 (of_decide_eq_true rfl), .ptr 2 0 (of_decide_eq_true rfl), .mp 3 (of_decide_eq_true rfl), .ptr 5 0 (of_decide_eq_true rfl), trivial⟩ (.cons (hbk _) (okH_bws rfl)) (fun id hid => by cases hid) rfl (fun id hid => by cases hid)
  refine lp2_round ⟨Nat.le_refl 30, fun x hx => by cases hx⟩ rfl ?_
  conv => whnf
  refine ⟨fun h => absurd (full_len h) (of_decide_eq_false rfl), fun i4 x4 hx4 hn4 => ?_⟩
  obtain ⟨b4, n4, rfl, hi4, hw4, hu4⟩ := wds_kv hx4
  have hne4_0 : b4 ≠ b0 := hu4 i0 b0 n0 hx0 (fun he => hn4 (by simp [he]))
  have hne4_1 : b4 ≠ b1 := hu4 i1 b1 n1 hx1 (fun he => hn4 (by simp [he]))
  have hne4_2 : b4 ≠ b2 := hu4 i2 b2 n2 hx2 (fun he => hn4 (by simp [he]))
  have hne4_3 : b4 ≠ b3 := hu4 i3 b3 n3 hx3 (fun he => hn4 (by simp [he]))
  conv => whnf
  refine optK_intro hx4 ?_
  conv => whnf
  refine br_f (decide_eq_false hne4_0) ?_
  conv => whnf
  refine br_f (decide_eq_false hne4_1) ?_
  conv => whnf
  refine br_f (decide_eq_false hne4_2) ?_
  conv => whnf
  refine br_f (decide_eq_false hne4_3) ?_
  conv => whnf
  intro hv4
  refine ⟨rgS (rgH bk [(.int .u8 b0, fW 6), (.int .u8 b1, fW 7), (.int .u8 b2, fW 8), (.int .u8 b3, fW 9), (.int .u8 b4, fW 10)] 5 [i0, i1, i2, i3, i4] [cW n0, cW n1, cW n2, cW n3, cW n4]), ?_, Nat.le_refl _, ?_⟩
  · exact weak2 hv4 rfl ⟨.ptr 1 0 (of_decide_eq_true rfl), .ptr 2 0 (of_decide_eq_true rfl), .mp 3 (of_decide_eq_true rfl), .ptr 5 0 (of_decide_eq_true rfl), trivial⟩ (.cons (hbk _) (okH_bws rfl)) (fun id hid => by cases hid) rfl (fun id hid => by cases hid)
  refine lp2_round ⟨Nat.le_refl 30, fun x hx => by cases hx⟩ rfl ?_
  have hnd : [i0, i1, i2, i3, i4].Nodup := by
    simp only [List.mem_cons, List.not_mem_nil, or_false, not_or] at hn1 hn2 hn3 hn4
    simp only [List.nodup_cons, List.mem_cons, List.not_mem_nil, or_false, not_or, not_false_eq_true, List.nodup_nil, and_true]
    refine ⟨⟨Ne.symm hn1, Ne.symm hn2.1, Ne.symm hn3.1, Ne.symm hn4.1⟩, ⟨Ne.symm hn2.2, Ne.symm hn3.2.1, Ne.symm hn4.2.1⟩, ⟨Ne.symm hn3.2.2, Ne.symm hn4.2.2.1⟩, Ne.symm hn4.2.2.2⟩
  conv => whnf
  refine ⟨fun h => ?_, fun i5 x5 hx5 hn5 => absurd (pigeon hnd (fun j hj => ?_) (Nat.le_refl 5) (List.getElem?_eq_some_iff.1 hx5).1) hn5⟩
  rotate_left
  · simp only [List.mem_cons, List.not_mem_nil, or_false] at hj
    show j < 5
    omega
  conv => whnf
  refine Call2.mono (texts_ct G _) fun r0 H0 h => ?_
  obtain ⟨h1, h2⟩ := h
  rw [h1, h2]
  clear h1 h2 r0 H0
  conv => whnf
  intro hw
  refine wpc_unroll (n := 30) ?_
  refine lp2_round hw rfl ?_
  conv => whnf
  refine ⟨fun h => absurd (full_len h) (of_decide_eq_false rfl), fun k0 y0 hy0 hq0 => ?_⟩
  obtain ⟨d0, m0, rfl, hk0, ht0, hz0⟩ := txs_kv hy0
  conv => whnf
  refine optK_intro hy0 ?_
  conv => whnf
  refine br_f (decide_eq_false (isWT hw0 ht0)) ?_
  conv => whnf
  refine br_f (decide_eq_false (isWT hw1 ht0)) ?_
  conv => whnf
  refine br_f (decide_eq_false (isWT hw2 ht0)) ?_
  conv => whnf
  refine br_f (decide_eq_false (isWT hw3 ht0)) ?_
  conv => whnf
  refine br_f (decide_eq_false (isWT hw4 ht0)) ?_
  conv => whnf
  intro hv5
  refine ⟨rgS2 (rgH bk [(.int .u8 b0, fW 6), (.int .u8 b1, fW 7), (.int .u8 b2, fW 8), (.int .u8 b3, fW 9), (.int .u8 b4, fW 10), (.int .u8 d0, fT 13)] 6 [i0, i1, i2, i3, i4] [cW n0, cW n1, cW n2, cW n3, cW n4, some (.map txsL 3), some (.iter 11 3 3 [k0]), cT m0]), ?_, Nat.le_refl _, ?_⟩
  · exact weak2 hv5 rfl ⟨.ptr 1 0 (of_decide_eq_true rfl), .ptr 2 0 (of_decide_eq_true rfl), .mp 3 (of_decide_eq_true rfl), .ptr 12 0 (of_decide_eq_true rfl), trivial⟩ (.cons (hbk _) (okH_bws rfl)) (fun id hid => by cases hid) rfl (fun id hid => by cases hid)
  refine lp2_round ⟨Nat.le_refl 30, fun x hx => by cases hx⟩ rfl ?_
  conv => whnf
  refine ⟨fun h => absurd (full_len h) (of_decide_eq_false rfl), fun k1 y1 hy1 hq1 => ?_⟩
  obtain ⟨d1, m1, rfl, hk1, ht1, hz1⟩ := txs_kv hy1
  have hte1_0 : d1 ≠ d0 := hz1 k0 d0 m0 hy0 (fun he => hq1 (by simp [he]))
  conv => whnf
  refine optK_intro hy1 ?_
  conv => whnf
  refine br_f (decide_eq_false (isWT hw0 ht1)) ?_
  conv => whnf
  refine br_f (decide_eq_false (isWT hw1 ht1)) ?_
  conv => whnf
  refine br_f (decide_eq_false (isWT hw2 ht1)) ?_
  conv => whnf
  refine br_f (decide_eq_false (isWT hw3 ht1)) ?_
  conv => whnf
  refine br_f (decide_eq_false (isWT hw4 ht1)) ?_
  conv => whnf
  refine br_f (decide_eq_false hte1_0) ?_
  conv => whnf
  intro hv6
  refine ⟨rgS2 (rgH bk [(.int .u8 b0, fW 6), (.int .u8 b1, fW 7), (.int .u8 b2, fW 8), (.int .u8 b3, fW 9), (.int .u8 b4, fW 10), (.int .u8 d0, fT 13), (.int .u8 d1, fT 14)] 7 [i0, i1, i2, i3, i4] [cW n0, cW n1, cW n2, cW n3, cW n4, some (.map txsL 3), some (.iter 11 3 3 [k0, k1]), cT m0, cT m1]), ?_, Nat.le_refl _, ?_⟩
  · exact weak2 hv6 rfl ⟨.ptr 1 0 (of_decide_eq_true rfl), .ptr 2 0 (of_decide_eq_true rfl), .mp 3 (of_decide_eq_true rfl), .ptr 12 0 (of_decide_eq_true rfl), trivial⟩ (.cons (hbk _) (okH_bws rfl)) (fun id hid => by cases hid) rfl (fun id hid => by cases hid)
  refine lp2_round ⟨Nat.le_refl 30, fun x hx => by cases hx⟩ rfl ?_
  conv => whnf
  refine ⟨fun h => absurd (full_len h) (of_decide_eq_false rfl), fun k2 y2 hy2 hq2 => ?_⟩
  obtain ⟨d2, m2, rfl, hk2, ht2, hz2⟩ := txs_kv hy2
  have hte2_0 : d2 ≠ d0 := hz2 k0 d0 m0 hy0 (fun he => hq2 (by simp [he]))
  have hte2_1 : d2 ≠ d1 := hz2 k1 d1 m1 hy1 (fun he => hq2 (by simp [he]))
  conv => whnf
  refine optK_intro hy2 ?_
  conv => whnf
  refine br_f (decide_eq_false (isWT hw0 ht2)) ?_
  conv => whnf
  refine br_f (decide_eq_false (isWT hw1 ht2)) ?_
  conv => whnf
  refine br_f (decide_eq_false (isWT hw2 ht2)) ?_
  conv => whnf
  refine br_f (decide_eq_false (isWT hw3 ht2)) ?_
  conv => whnf
  refine br_f (decide_eq_false (isWT hw4 ht2)) ?_
  conv => whnf
  refine br_f (decide_eq_false hte2_0) ?_
  conv => whnf
  refine br_f (decide_eq_false hte2_1) ?_
  conv => whnf
  intro hv7
  refine ⟨rgS2 (rgH bk [(.int .u8 b0, fW 6), (.int .u8 b1, fW 7), (.int .u8 b2, fW 8), (.int .u8 b3, fW 9), (.int .u8 b4, fW 10), (.int .u8 d0, fT 13), (.int .u8 d1, fT 14), (.int .u8 d2, fT 15)] 8 [i0, i1, i2, i3, i4] [cW n0, cW n1, cW n2, cW n3, cW n4, some (.map txsL 3), some (.iter 11 3 3 [k0, k1, k2]), cT m0, cT m1, cT m2]), ?_, Nat.le_refl _, ?_⟩
  · exact weak2 hv7 rfl ⟨.ptr 1 0 (of_decide_eq_true rfl), .ptr 2 0 (of_decide_eq_true rfl), .mp 3 (of_decide_eq_true rfl), .ptr 12 0 (of_decide_eq_true rfl), trivial⟩ (.cons (hbk _) (okH_bws rfl)) (fun id hid => by cases hid) rfl (fun id hid => by cases hid)
  refine lp2_round ⟨Nat.le_refl 30, fun x hx => by cases hx⟩ rfl ?_
  have hnd2 : [k0, k1, k2].Nodup := by
    simp only [List.mem_cons, List.not_mem_nil, or_false, not_or] at hq1 hq2
    simp only [List.nodup_cons, List.mem_cons, List.not_mem_nil, or_false, not_or, not_false_eq_true, List.nodup_nil, and_true]
    exact ⟨⟨Ne.symm hq1, Ne.symm hq2.1⟩, Ne.symm hq2.2⟩
  conv => whnf
  refine ⟨fun h => ?_, fun k3 y3 hy3 hq3 => absurd (pigeon hnd2 (fun j hj => ?_) (Nat.le_refl 3) (List.getElem?_eq_some_iff.1 hy3).1) hq3⟩
  rotate_left
  · simp only [List.mem_cons, List.not_mem_nil, or_false] at hj
    show j < 3
    omega
  conv => whnf
  exact ⟨rfl, i0, i1, i2, i3, i4, k0, k1, k2, b0, b1, b2, b3, b4, n0, n1, n2, n3, n4, d0, d1, d2, m0, m1, m2, rfl, hnd, hnd2, hx0, hx1, hx2, hx3, hx4, hy0, hy1, hy2⟩

end Go.Abs.Sig

/-! LM3 -/
namespace Go.Abs.Sig
open Go.RowKit Go.Abs
set_option linter.unusedSimpArgs false
set_option linter.unusedVariables false
set_option maxRecDepth 8000
attribute [local irreducible] StCall StYield WPc Weak IterOf

/-- What a map of rights holds: a function for each letter. -/
structure RM (es : List (V × V)) (H : Heap) : Prop where
  keys : ∃ bs : List Int, es.map (·.1) = bs.map (V.int .u8) ∧ bs.Nodup
  w : ∀ b n, isW b n → ∃ i q : Nat, es[i]? = some (V.int .u8 b, fW q) ∧ H[q]? = some (cW n)
  t : ∀ b n, isT b n → ∃ i q : Nat, es[i]? = some (V.int .u8 b, fT q) ∧ H[q]? = some (cT n)

theorem evFind2_hit {b : Int} {v : V} {K : Option (Nat × V) → Prop} : ∀ (es : List (V × V)) (bs : List Int) (i s : Nat), es.map (·.1) = bs.map (V.int .u8) → bs.Nodup → es[i]? = some (.int .u8 b, v) → K (some (s + i, v)) → evFind2 (.int .u8 b) K es s
  | [], _, i, s, _, _, h, _ => by simp at h
  | e :: es, [], i, s, hk, _, _, _ => by simp at hk
  | e :: es, c :: bs, i, s, hk, hnd, h, hK => by
    simp only [List.map_cons, List.cons.injEq] at hk
    obtain ⟨he, hk⟩ := hk
    rw [List.nodup_cons] at hnd
    unfold evFind2
    have heq : keyEq (.int .u8 b) e.1 = some (decide (b = c)) := by rw [he]; rfl
    rw [heq]
    cases i with
    | zero =>
      simp only [List.getElem?_cons_zero, Option.some.injEq] at h
      subst h
      have hbc : b = c := by
        have : V.int .u8 b = V.int .u8 c := he
        simpa using this
      exact br_t (decide_eq_true hbc) hK
    | succ i =>
      simp only [List.getElem?_cons_succ] at h
      have hne : b ≠ c := by
        rintro rfl
        apply hnd.1
        have : V.int .u8 b ∈ es.map (·.1) := List.mem_map.2 ⟨_, List.mem_of_getElem? h, rfl⟩
        rw [hk, List.mem_map] at this
        obtain ⟨x, hx, hxe⟩ := this
        have : x = b := by simpa using hxe
        rwa [this] at hx
      refine br_f (decide_eq_false hne) (evFind2_hit es bs i (s + 1) hk hnd.2 h ?_)
      rw [show s + 1 + i = s + (i + 1) by omega]
      exact hK

theorem wds_at {b n : Int} (h : isW b n) : ∃ i, i < 5 ∧ wdsL[i]? = some (kv b n) := by
  rcases h with ⟨rfl, rfl⟩ | ⟨rfl, rfl⟩ | ⟨rfl, rfl⟩ | ⟨rfl, rfl⟩ | ⟨rfl, rfl⟩
  · exact ⟨0, by omega, rfl⟩
  · exact ⟨1, by omega, rfl⟩
  · exact ⟨2, by omega, rfl⟩
  · exact ⟨3, by omega, rfl⟩
  · exact ⟨4, by omega, rfl⟩
theorem txs_at {b n : Int} (h : isT b n) : ∃ i, i < 3 ∧ txsL[i]? = some (kv b n) := by
  rcases h with ⟨rfl, rfl⟩ | ⟨rfl, rfl⟩ | ⟨rfl, rfl⟩
  · exact ⟨0, by omega, rfl⟩
  · exact ⟨1, by omega, rfl⟩
  · exact ⟨2, by omega, rfl⟩
theorem kv_inj {b n b' n' : Int} (h : some (kv b n) = some (kv b' n')) : b = b' ∧ n = n' := by
  simp only [Option.some.injEq, kv, Prod.mk.injEq, V.im.injEq, Value.int.injEq, true_and] at h
  exact h

theorem rights_ct (G : Nat → Option (List V)) (bk : Option Blk) (hbk : ∀ n, BW n bk bk) : Call2 Go.Proofs.Tryz.prog G 79 [] [bk] fun v H' => v = .mp 3 ∧ ∃ es c X, H' = bk :: some (.cells 160 [.fn (.func 106) [] []]) :: some (.cells 162 [.fn (.func 107) [] []]) :: some (.map es c) :: X ∧ RM es H' ∧ Scoped H' := by
  refine Call2.mono (rights_ct0 G bk hbk) fun v H' h => ?_
  obtain ⟨hv, i0, i1, i2, i3, i4, k0, k1, k2, b0, b1, b2, b3, b4, n0, n1, n2, n3, n4, d0, d1, d2, m0, m1, m2, rfl, hnd, hnd2, hx0, hx1, hx2, hx3, hx4, hy0, hy1, hy2⟩ := h
  refine ⟨hv, _, _, _, rfl, ⟨⟨[b0, b1, b2, b3, b4, d0, d1, d2], rfl, ?_⟩, fun b n hb => ?_, fun b n hb => ?_⟩, ?_⟩
  · obtain ⟨_, _, e0, _, w0, u0⟩ := wds_kv hx0
    obtain ⟨_, _, e1, _, w1, u1⟩ := wds_kv hx1
    obtain ⟨_, _, e2, _, w2, u2⟩ := wds_kv hx2
    obtain ⟨_, _, e3, _, w3, u3⟩ := wds_kv hx3
    obtain ⟨_, _, e4, _, w4, u4⟩ := wds_kv hx4
    obtain ⟨_, _, f0, _, t0, z0⟩ := txs_kv hy0
    obtain ⟨_, _, f1, _, t1, z1⟩ := txs_kv hy1
    obtain ⟨_, _, f2, _, t2, z2⟩ := txs_kv hy2
    obtain ⟨rfl, rfl⟩ := kv_inj (congrArg some e0)
    obtain ⟨rfl, rfl⟩ := kv_inj (congrArg some e1)
    obtain ⟨rfl, rfl⟩ := kv_inj (congrArg some e2)
    obtain ⟨rfl, rfl⟩ := kv_inj (congrArg some e3)
    obtain ⟨rfl, rfl⟩ := kv_inj (congrArg some e4)
    obtain ⟨rfl, rfl⟩ := kv_inj (congrArg some f0)
    obtain ⟨rfl, rfl⟩ := kv_inj (congrArg some f1)
    obtain ⟨rfl, rfl⟩ := kv_inj (congrArg some f2)
    simp only [List.nodup_cons, List.mem_cons, List.not_mem_nil, or_false, not_or, not_false_eq_true, List.nodup_nil, and_true] at hnd hnd2 ⊢
    obtain ⟨⟨g1, g2, g3, g4⟩, ⟨g5, g6, g7⟩, ⟨g8, g9⟩, g10⟩ := hnd
    obtain ⟨⟨g11, g12⟩, g13⟩ := hnd2
    refine ⟨⟨u0 _ _ _ hx1 (Ne.symm g1), u0 _ _ _ hx2 (Ne.symm g2), u0 _ _ _ hx3 (Ne.symm g3), u0 _ _ _ hx4 (Ne.symm g4), (isWT w0 t0).symm, (isWT w0 t1).symm, (isWT w0 t2).symm⟩,
      ⟨u1 _ _ _ hx2 (Ne.symm g5), u1 _ _ _ hx3 (Ne.symm g6), u1 _ _ _ hx4 (Ne.symm g7), (isWT w1 t0).symm, (isWT w1 t1).symm, (isWT w1 t2).symm⟩,
      ⟨u2 _ _ _ hx3 (Ne.symm g8), u2 _ _ _ hx4 (Ne.symm g9), (isWT w2 t0).symm, (isWT w2 t1).symm, (isWT w2 t2).symm⟩,
      ⟨u3 _ _ _ hx4 (Ne.symm g10), (isWT w3 t0).symm, (isWT w3 t1).symm, (isWT w3 t2).symm⟩,
      ⟨(isWT w4 t0).symm, (isWT w4 t1).symm, (isWT w4 t2).symm⟩, ⟨z0 _ _ _ hy1 (Ne.symm g11), z0 _ _ _ hy2 (Ne.symm g12)⟩, z1 _ _ _ hy2 (Ne.symm g13)⟩
  · obtain ⟨i, hi, hib⟩ := wds_at hb
    have hm : i ∈ [i0, i1, i2, i3, i4] := pigeon hnd (fun j hj => by
      simp only [List.mem_cons, List.not_mem_nil, or_false] at hj
      rcases hj with rfl | rfl | rfl | rfl | rfl <;> exact (List.getElem?_eq_some_iff.1 (by assumption)).1) (Nat.le_refl 5) hi
    simp only [List.mem_cons, List.not_mem_nil, or_false] at hm
    rcases hm with rfl | rfl | rfl | rfl | rfl
    · obtain ⟨rfl, rfl⟩ := kv_inj (hib.symm.trans hx0)
      exact ⟨0, 6, rfl, rfl⟩
    · obtain ⟨rfl, rfl⟩ := kv_inj (hib.symm.trans hx1)
      exact ⟨1, 7, rfl, rfl⟩
    · obtain ⟨rfl, rfl⟩ := kv_inj (hib.symm.trans hx2)
      exact ⟨2, 8, rfl, rfl⟩
    · obtain ⟨rfl, rfl⟩ := kv_inj (hib.symm.trans hx3)
      exact ⟨3, 9, rfl, rfl⟩
    · obtain ⟨rfl, rfl⟩ := kv_inj (hib.symm.trans hx4)
      exact ⟨4, 10, rfl, rfl⟩
  · obtain ⟨i, hi, hib⟩ := txs_at hb
    have hm : i ∈ [k0, k1, k2] := pigeon hnd2 (fun j hj => by
      simp only [List.mem_cons, List.not_mem_nil, or_false] at hj
      rcases hj with rfl | rfl | rfl <;> exact (List.getElem?_eq_some_iff.1 (by assumption)).1) (Nat.le_refl 3) hi
    simp only [List.mem_cons, List.not_mem_nil, or_false] at hm
    rcases hm with rfl | rfl | rfl
    · obtain ⟨rfl, rfl⟩ := kv_inj (hib.symm.trans hy0)
      exact ⟨5, 13, rfl, rfl⟩
    · obtain ⟨rfl, rfl⟩ := kv_inj (hib.symm.trans hy1)
      exact ⟨6, 14, rfl, rfl⟩
    · obtain ⟨rfl, rfl⟩ := kv_inj (hib.symm.trans hy2)
      exact ⟨7, 15, rfl, rfl⟩
  · intro id b hb
    cases id with
    | zero =>
      have := hbk (rgH bk [] 0 [] []).length
      have hb' : bk = some b := by simpa [rgH] using hb
      subst hb'
      exact hbk _
    | succ id => exact okB_bw (List.all_eq_true.1 (show (rgH none _ _ _ _).tail.all (okB 16) = true from rfl) (some b) (List.mem_of_getElem? (i := id) (by simpa [rgH] using hb)))

end Go.Abs.Sig

/-! LM4 -/
namespace Go.Abs.Sig
open Go.RowKit Go.Abs
set_option linter.unusedSimpArgs false
set_option linter.unusedVariables false
set_option maxRecDepth 8000
attribute [local irreducible] StCall StYield WPc Weak IterOf

def vcells (v : Val') : List V := [.int .u64 v.1, .str v.2]
theorem vcells_free' (v : Val') : ∀ x ∈ vcells v, x.Free := fun x hx => by
  simp only [vcells, List.mem_cons, List.not_mem_nil, or_false] at hx
  rcases hx with rfl | rfl
  · exact .im _
  · exact .str _
theorem vcells_free (v : Val') : (V.agg (vcells v)).Free := .agg _ (vcells_free' v)

/-- Is a value such a number? -/
def wr (n : Int) (v : Val') : Int :=
  if (decide (n = 0) && decide (1 < v.1)) || (decide (0 < n) && (decide (n < 8) && decide (v.1.fdiv (2 ^ (8 * n).toNat) ≠ 0))) then 4 else if decide (v.2 ≠ []) then 1 else 0

theorem wright_ct (G : Nat → Option (List V)) (b n : Int) (hn : isW b n) (v : Val') (H : Heap) : Call2 Go.Proofs.Tryz.prog G 106 [.int .i64 n, .agg (vcells v)] H fun r H' => H' = H ∧ r = .int .i64 (wr n v) := by
  refine Call2.free (fun x hx => by
    simp only [List.mem_cons, List.not_mem_nil, or_false] at hx
    rcases hx with rfl | rfl
    · exact .im _
    · exact vcells_free v) ?_ H
  refine stCall2 Go.Proofs.Tryz.func106 rfl (by decide) ?_
  have hn' : n = 1 ∨ n = 2 ∨ n = 4 ∨ n = 8 ∨ n = 0 := by unfold isW at hn; omega
  rcases hn' with rfl | rfl | rfl | rfl | rfl
  · conv => whnf
    refine ⟨by decide, ?_⟩
    conv => whnf
    refine br_intro (fun h => ?_) (fun h => ?_)
    · have h' : decide (v.1.fdiv (2 ^ 8) ≠ 0) = true := h
      have e : wr 1 v = 4 := by
        unfold wr
        rw [show (8 * (1 : Int)).toNat = 8 from rfl, h']
        rfl
      rw [e]
      conv => whnf
      exact ⟨.im _, rfl⟩
    · have h' : decide (v.1.fdiv (2 ^ 8) ≠ 0) = false := h
      have e : wr 1 v = if decide (v.2 ≠ []) then 1 else 0 := by
        unfold wr
        rw [show (8 * (1 : Int)).toNat = 8 from rfl, h']
        rfl
      rw [e]
      conv => whnf
      refine br_intro (fun h2 => ?_) (fun h2 => ?_)
      · have h2' : decide (v.2 ≠ []) = true := h2
        rw [h2']
        conv => whnf
        exact ⟨.im _, rfl⟩
      · have h2' : decide (v.2 ≠ []) = false := h2
        rw [h2']
        conv => whnf
        exact ⟨.im _, rfl⟩
  · conv => whnf
    refine ⟨by decide, ?_⟩
    conv => whnf
    refine br_intro (fun h => ?_) (fun h => ?_)
    · have h' : decide (v.1.fdiv (2 ^ 16) ≠ 0) = true := h
      have e : wr 2 v = 4 := by
        unfold wr
        rw [show (8 * (2 : Int)).toNat = 16 from rfl, h']
        rfl
      rw [e]
      conv => whnf
      exact ⟨.im _, rfl⟩
    · have h' : decide (v.1.fdiv (2 ^ 16) ≠ 0) = false := h
      have e : wr 2 v = if decide (v.2 ≠ []) then 1 else 0 := by
        unfold wr
        rw [show (8 * (2 : Int)).toNat = 16 from rfl, h']
        rfl
      rw [e]
      conv => whnf
      refine br_intro (fun h2 => ?_) (fun h2 => ?_)
      · have h2' : decide (v.2 ≠ []) = true := h2
        rw [h2']
        conv => whnf
        exact ⟨.im _, rfl⟩
      · have h2' : decide (v.2 ≠ []) = false := h2
        rw [h2']
        conv => whnf
        exact ⟨.im _, rfl⟩
  · conv => whnf
    refine ⟨by decide, ?_⟩
    conv => whnf
    refine br_intro (fun h => ?_) (fun h => ?_)
    · have h' : decide (v.1.fdiv (2 ^ 32) ≠ 0) = true := h
      have e : wr 4 v = 4 := by
        unfold wr
        rw [show (8 * (4 : Int)).toNat = 32 from rfl, h']
        rfl
      rw [e]
      conv => whnf
      exact ⟨.im _, rfl⟩
    · have h' : decide (v.1.fdiv (2 ^ 32) ≠ 0) = false := h
      have e : wr 4 v = if decide (v.2 ≠ []) then 1 else 0 := by
        unfold wr
        rw [show (8 * (4 : Int)).toNat = 32 from rfl, h']
        rfl
      rw [e]
      conv => whnf
      refine br_intro (fun h2 => ?_) (fun h2 => ?_)
      · have h2' : decide (v.2 ≠ []) = true := h2
        rw [h2']
        conv => whnf
        exact ⟨.im _, rfl⟩
      · have h2' : decide (v.2 ≠ []) = false := h2
        rw [h2']
        conv => whnf
        exact ⟨.im _, rfl⟩
  · have e : wr 8 v = if decide (v.2 ≠ []) then 1 else 0 := rfl
    rw [e]
    conv => whnf
    refine br_intro (fun h2 => ?_) (fun h2 => ?_)
    · have h2' : decide (v.2 ≠ []) = true := h2
      rw [h2']
      conv => whnf
      exact ⟨.im _, rfl⟩
    · have h2' : decide (v.2 ≠ []) = false := h2
      rw [h2']
      conv => whnf
      exact ⟨.im _, rfl⟩
  · conv => whnf
    refine br_intro (fun h => ?_) (fun h => ?_)
    · have h' : decide (1 < v.1) = true := h
      have e : wr 0 v = 4 := by
        unfold wr
        rw [h']
        rfl
      rw [e]
      conv => whnf
      exact ⟨.im _, rfl⟩
    · have h' : decide (1 < v.1) = false := h
      have e : wr 0 v = if decide (v.2 ≠ []) then 1 else 0 := by
        unfold wr
        rw [h']
        rfl
      rw [e]
      conv => whnf
      refine br_intro (fun h2 => ?_) (fun h2 => ?_)
      · have h2' : decide (v.2 ≠ []) = true := h2
        rw [h2']
        conv => whnf
        exact ⟨.im _, rfl⟩
      · have h2' : decide (v.2 ≠ []) = false := h2
        rw [h2']
        conv => whnf
        exact ⟨.im _, rfl⟩

/-- Is a value such a text (no table)? -/
def wt (n : Int) (v : Val') : Int := if decide ((v.2.length : Int) > n) then 4 else if decide (v.1 ≠ 0) then 1 else 0

theorem wtext_ct (G : Nat → Option (List V)) (n : Int) (hn : n = 255 ∨ n = 131072) (v : Val') (H : Heap) : Call2 Go.Proofs.Tryz.prog G 107 [.int .i64 n, .agg (vcells v)] H fun r H' => H' = H ∧ r = .int .i64 (wt n v) := by
  refine Call2.free (fun x hx => by
    simp only [List.mem_cons, List.not_mem_nil, or_false] at hx
    rcases hx with rfl | rfl
    · exact .im _
    · exact vcells_free v) ?_ H
  refine stCall2 Go.Proofs.Tryz.func107 rfl (by decide) ?_
  unfold wt
  rcases hn with rfl | rfl
  all_goals
    conv => whnf
    refine br_intro (fun h => ?_) (fun h => ?_)
    · have h' : decide ((v.2.length : Int) > _) = true := h
      rw [h']
      conv => whnf
      exact ⟨.im _, rfl⟩
    · have h' : decide ((v.2.length : Int) > _) = false := h
      rw [h']
      conv => whnf
      refine br_intro (fun h2 => ?_) (fun h2 => ?_)
      · have h2' : decide (v.1 ≠ 0) = true := h2
        rw [h2']
        conv => whnf
        exact ⟨.im _, rfl⟩
      · have h2' : decide (v.1 ≠ 0) = false := h2
        rw [h2']
        conv => whnf
        exact ⟨.im _, rfl⟩

theorem get_old {H : Heap} {X : Heap} {i : Nat} {b : Option Blk} (h : H[i]? = some b) : (H ++ X)[i]? = some b := by
  rw [List.getElem?_append_left (List.getElem?_eq_some_iff.1 h).1]; exact h

theorem fW_ct (G : Nat → Option (List V)) (b n : Int) (hn : isW b n) (v : Val') (q : Nat) (H : Heap) (h1 : H[1]? = some (some (.cells 160 [.fn (.func 106) [] []]))) (hq : H[q]? = some (cW n)) :
    Call2 Go.Proofs.Tryz.prog G 109 [.agg (vcells v), .ptr 1 0, .ptr q 0] H fun r H' => H' = H ∧ r = .int .i64 (wr n v) := by
  refine Call2.inScope ⟨_, Go.Proofs.Tryz.func109, rfl, by decide⟩ fun hs => ?_
  refine Call2.cut ?_
  refine stCall2 Go.Proofs.Tryz.func109 rfl (by decide) ?_
  conv => whnf
  rw [get_old h1]
  conv => whnf
  rw [get_old hq]
  conv => whnf
  try simp only [List.append_assoc, List.cons_append, List.nil_append, List.length_append, List.length_cons, List.length_nil, Nat.zero_add, Nat.add_assoc, Nat.reduceAdd, ga0, ga1, ga2, ga3, ga4, ga5, sa0, sa1, sa2, sa3, sa4, sa5, S2.setH_H, List.all_cons, List.all_nil, isDefd, nodupB, List.any_nil, Bool.and_true, Bool.not_false, List.foldl_cons, List.foldl_nil]
  conv => whnf
  refine Call2.mono (wright_ct G b n hn v _) fun r0 H0 h => ?_
  obtain ⟨h1, h2⟩ := h
  rw [h1, h2]
  clear h1 h2 r0 H0
  conv => whnf
  exact ⟨_, Cut.app (X := [some (.cells 50 (vcells v))]) hs rfl, .im _, rfl, rfl⟩

theorem fT_ct (G : Nat → Option (List V)) (n : Int) (hn : n = 255 ∨ n = 131072) (v : Val') (q : Nat) (H : Heap) (h1 : H[2]? = some (some (.cells 162 [.fn (.func 107) [] []]))) (hq : H[q]? = some (cT n)) :
    Call2 Go.Proofs.Tryz.prog G 111 [.agg (vcells v), .ptr 2 0, .ptr q 0] H fun r H' => H' = H ∧ r = .int .i64 (wt n v) := by
  refine Call2.inScope ⟨_, Go.Proofs.Tryz.func111, rfl, by decide⟩ fun hs => ?_
  refine Call2.cut ?_
  refine stCall2 Go.Proofs.Tryz.func111 rfl (by decide) ?_
  conv => whnf
  rw [get_old h1]
  conv => whnf
  rw [get_old hq]
  conv => whnf
  try simp only [List.append_assoc, List.cons_append, List.nil_append, List.length_append, List.length_cons, List.length_nil, Nat.zero_add, Nat.add_assoc, Nat.reduceAdd, ga0, ga1, ga2, ga3, ga4, ga5, sa0, sa1, sa2, sa3, sa4, sa5, S2.setH_H, List.all_cons, List.all_nil, isDefd, nodupB, List.any_nil, Bool.and_true, Bool.not_false, List.foldl_cons, List.foldl_nil]
  conv => whnf
  refine Call2.mono (wtext_ct G n hn v _) fun r0 H0 h => ?_
  obtain ⟨h1, h2⟩ := h
  rw [h1, h2]
  clear h1 h2 r0 H0
  conv => whnf
  exact ⟨_, Cut.app (X := [some (.cells 50 (vcells v))]) hs rfl, .im _, rfl, rfl⟩

end Go.Abs.Sig

/-! LRSig7 -/
namespace Go.Abs.Sig
open Go.RowKit Go.Abs
set_option linter.unusedSimpArgs false
set_option linter.unusedVariables false
set_option maxRecDepth 8000
attribute [local irreducible] StCall StYield WPc Weak IterOf

def letters : List UInt8 := [111, 115, 108, 113, 98, 83, 76, 84]
set_option maxRecDepth 100000 in
theorem tab_letters : (tab.all fun r => r.2.2.1.all fun b => letters.contains b) = true := by decide
theorem at_none {c i : Int} (h : isAt c i = false) : rowAt c i = zrow := by
  unfold isAt at h
  unfold rowAt
  cases hf : tab.find? (pAt c i) with
  | none => rfl
  | some r => rw [hf] at h; cases h

theorem at_some {c i : Int} (h : isAt c i = true) : rowAt c i ∈ tab := by
  unfold isAt at h
  unfold rowAt
  cases hf : tab.find? (pAt c i) with
  | none => rw [hf] at h; cases h
  | some r => exact List.mem_of_find?_eq_some hf

theorem letters_at {c i : Int} {b : UInt8} (h : b ∈ (rowAt c i).2.2.1) : b = 111 ∨ b = 115 ∨ b = 108 ∨ b = 113 ∨ b = 98 ∨ b = 83 ∨ b = 76 ∨ b = 84 := by
  cases hb : isAt c i with
  | false => rw [at_none hb] at h; cases h
  | true =>
    have := List.all_eq_true.1 (List.all_eq_true.1 tab_letters _ (at_some hb)) b h
    simpa [letters] using this

theorem tab_short (c i : Int) : (rowAt c i).2.2.1.length ≤ 100 := by
  cases hb : isAt c i with
  | false => rw [at_none hb]; decide
  | true =>
    have h : (tab.all fun r => decide (r.2.2.1.length ≤ 100)) = true := by decide
    have := List.all_eq_true.1 h _ (at_some hb)
    simpa using this


end Go.Abs.Sig

/-! LM5 -/
namespace Go.Abs.Sig
open Go.RowKit Go.Abs
set_option linter.unusedSimpArgs false
set_option linter.unusedVariables false
set_option maxRecDepth 8000
attribute [local irreducible] StCall StYield WPc Weak IterOf

def rl (tb : Val' → Int) (c : UInt8) (v : Val') : Int :=
  if c = 111 then wr 1 v else if c = 115 then wr 2 v else if c = 108 then wr 4 v else if c = 113 then wr 8 v else if c = 98 then wr 0 v else if c = 83 then wt 255 v else if c = 76 then wt 131072 v else tb v
def vright (tb : Val' → Int) : List UInt8 → List Val' → Int
  | c :: s, v :: l => if rl tb c v ≠ 0 then rl tb c v else vright tb s l
  | _, _ => 0
def mright (tb : Val' → Int) (m : Met) : Int := if !isAt m.1 m.2.1 || decide (((rowAt m.1 m.2.1).2.2.1.length : Int) ≠ (m.2.2.length : Int)) then 7 else vright tb (rowAt m.1 m.2.1).2.2.1 m.2.2

/-- As long as a text may be. -/
def maxStr : Nat := 1152921504606846976
theorem le_maxStr {n : Nat} (h : n ≤ maxBytes) : n ≤ maxStr := Nat.le_trans h (by decide)
/-- What is asked of a table's letter. -/
def TbOk (G : Nat → Option (List V)) (tb : Val' → Int) : Prop := ∀ (v : Val') (q : Nat) (H : Heap), v.2.length ≤ maxStr → H[2]? = some (some (.cells 162 [.fn (.func 107) [] []])) → H[q]? = some (cT (-1)) →
    Call2 Go.Proofs.Tryz.prog G 111 [.agg (vcells v), .ptr 2 0, .ptr q 0] H fun r H' => H' = H ∧ r = .int .i64 (tb v)

theorem bws_app {n : Nat} {H H' : Heap} (h : BWs n H H') (X : Heap) : BWs n (H ++ X) H' := by
  induction h with
  | nil H => exact .nil _
  | cons h _ ih => exact .cons h ih

def mrS (s : List UInt8) (l : List Val') (j : Nat) (H : Heap) : S2 := headS 47 ([.bad, .ptr 0 0, .bad, .str s, .bad, .mp 3, .im (.int .i64 0)] ++ List.replicate 22 .bad ++ [.dat 2 (vals l) .no, .int .i64 (l.length : Int), .int .i64 (j : Int)] ++ List.replicate 15 .bad) H [] none

theorem vals_get {l : List Val'} {j : Nat} {v : Val'} (h : l[j]? = some v) : (vals l)[Int.toNat (j : Int)]? = some (vcells v) := by
  show (vals l)[j]? = _
  unfold vals
  rw [List.getElem?_map, h]; rfl

theorem mcells_free' (m : Met) : ∀ x ∈ mcells m, x.Free := fun v hv => by
  simp only [mcells, List.mem_cons, List.not_mem_nil, or_false] at hv
  rcases hv with rfl | rfl | rfl
  · exact .im _
  · exact .im _
  · exact .dat _ _ _ (by simp)
theorem mright_ct (G : Nat → Option (List V)) (tb : Val' → Int) (m : Met) (htb : 84 ∈ (rowAt m.1 m.2.1).2.2.1 → TbOk G tb ∧ ∀ v ∈ m.2.2, v.2.length ≤ maxStr) (H : Heap) : Call2 Go.Proofs.Tryz.prog G 46 [.agg (mcells m)] H fun r H' => H' = H ∧ r = .int .i64 (mright tb m) := by
  refine Call2.free (fun x hx => by
    simp only [List.mem_cons, List.not_mem_nil, or_false] at hx
    subst hx
    exact mcells_free m) ?_ H
  obtain ⟨c, i, l⟩ := m
  refine stCall2 Go.Proofs.Tryz.func46 rfl (by decide) ?_
  unfold mright
  conv => whnf
  intro hws
  refine wpc_scope2 hws ?_
  conv => whnf
  refine Call2.mono (of_ct G c i _) fun r0 H0 h => ?_
  obtain ⟨h1, h2⟩ := h
  rw [h1, h2]
  clear h1 h2 r0 H0
  conv => whnf
  have hsh := tab_short c i
  generalize hs : (rowAt c i).2.2.1 = s at htb hsh
  cases hi : isAt c i
  · conv => whnf
    exact ⟨.im _, rfl⟩
  · conv => whnf
    refine br_intro (fun h1 => ?_) (fun h1 => ?_)
    · have h1' : decide ((s.length : Int) ≠ ((vals l).length : Int)) = true := h1
      have h1'' : decide ((s.length : Int) ≠ (l.length : Int)) = true := by rw [← h1']; simp [vals]
      conv => whnf
      refine ⟨.im _, ?_⟩
      show V.int .i64 7 = V.int .i64 (if !true || decide ((s.length : Int) ≠ (l.length : Int)) then 7 else vright tb s l)
      rw [h1'']
      rfl
    · have h1' : decide ((s.length : Int) ≠ ((vals l).length : Int)) = false := h1
      have hlen : s.length = l.length := by simp [vals] at h1'; omega
      have hres : (if !true || decide ((s.length : Int) ≠ (l.length : Int)) then (7 : Int) else vright tb s l) = vright tb s l := by rw [hlen]; simp
      conv => whnf
      refine Call2.mono (rights_ct G (some (.cells 37 (mcells (c, i, l)))) (fun n => .free (mcells_free' (c, i, l)))) fun r0 H0 h => ?_
      obtain ⟨h1, es, c0, X, h2, hrm, hsc⟩ := h
      have hg1 : H0[1]? = some (some (.cells 160 [.fn (.func 106) [] []])) := by rw [h2]; rfl
      have hg2 : H0[2]? = some (some (.cells 162 [.fn (.func 107) [] []])) := by rw [h2]; rfl
      have hg3 : H0[3]? = some (some (.map es c0)) := by rw [h2]; rfl
      have hg0 : H0[0]? = some (some (.cells 37 (mcells (c, i, l)))) := by rw [h2]; rfl
      have hl4 : 4 ≤ H0.length := by rw [h2]; simp only [List.length_cons]; omega
      rw [h1]
      clear h1
      conv => whnf
      rw [show H0[([] : Heap).length]? = _ from hg0]
      conv => whnf
      intro hw
      refine wpc_loop2 (fun n1 s1 => ∃ j : Nat, j ≤ l.length ∧ n1 = l.length - j ∧ s1 = mrS s l j H0 ∧ vright tb (s.drop j) (l.drop j) = vright tb s l) l.length (mrS s l 0 H0) ?_ ⟨0, by omega, rfl, rfl, rfl⟩ ?_ ?_
      · exact weak2 hw rfl ⟨.ptr 0 0 (by show 0 < H0.length; omega), .str _, .mp 3 (by show 3 < H0.length; omega), .im _, .dat _ _ _, .int (by simp [vals]), .im _, trivial⟩ hsc.bws (fun id hid => by cases hid) rfl (fun id hid => by cases hid)
      · rintro n1 s1 ⟨j, _, _, rfl, _⟩
        exact ⟨⟨Nat.le_refl 47, fun x hx => by cases hx⟩, rfl, Nat.le_refl _, rfl⟩
      · rintro n1 s1 ⟨j, hj, rfl, rfl, hinv⟩
        conv => whnf
        refine br_intro (fun hlt => ?_) (fun hge => ?_)
        · have hlt' : decide ((j : Int) < (l.length : Int)) = true := hlt
          rw [decide_eq_true_eq] at hlt'
          have hjl : j < l.length := by omega
          obtain ⟨v, hv⟩ : ∃ v, l[j]? = some v := ⟨l[j], List.getElem?_eq_getElem hjl⟩
          obtain ⟨b, hb⟩ : ∃ b, s[j]? = some b := ⟨_, List.getElem?_eq_getElem (by rw [hlen]; exact hjl)⟩
          have hget := vals_get hv
          have hgetb : s[Int.toNat (j : Int)]? = some b := hb
          have hd0 : decide (0 ≤ (j : Int)) = true := decide_eq_true (by omega)
          have hg : (true && true && decide ((0 : Int) ≤ (j : Int))) = true := by simp
          have hwj : IntKind.i64.wrap ((j : Int) + 1) = ((j + 1 : Nat) : Int) := by rw [wrap_i64 (by omega) (by omega)]; rfl
          have hds : s.drop j = b :: s.drop (j + 1) := by rw [List.drop_eq_getElem_cons (by rw [hlen]; exact hjl), (List.getElem?_eq_some_iff.1 hb).2]
          have hdl : l.drop j = v :: l.drop (j + 1) := by rw [List.drop_eq_getElem_cons hjl, (List.getElem?_eq_some_iff.1 hv).2]
          have hvr : vright tb (s.drop j) (l.drop j) = if rl tb b v ≠ 0 then rl tb b v else vright tb (s.drop (j + 1)) (l.drop (j + 1)) := by rw [hds, hdl]; rfl
          have hlet : b = 111 ∨ b = 115 ∨ b = 108 ∨ b = 113 ∨ b = 98 ∨ b = 83 ∨ b = 76 ∨ b = 84 := letters_at (c := c) (i := i) (by rw [hs]; exact List.mem_of_getElem? hb)
          have hbm : b ∈ s := List.mem_of_getElem? hb
          obtain ⟨i', q, f, p, hi', hcall⟩ : ∃ (i' q f p : Nat), es[i']? = some (V.int .u8 (b.toNat : Int), .fn (.func f) [] [.ptr p 0, .ptr q 0]) ∧
              ∀ Y, Call2 Go.Proofs.Tryz.prog G f ([.agg (vcells v)] ++ [.ptr p 0, .ptr q 0]) (H0 ++ Y) fun r H' => H' = H0 ++ Y ∧ r = .int .i64 (rl tb b v) := by
            rcases hlet with rfl | rfl | rfl | rfl | rfl | rfl | rfl | rfl
            · obtain ⟨i', q, g1, g2⟩ := hrm.w 111 1 (by simp [isW])
              exact ⟨i', q, _, 1, g1, fun Y => fW_ct G 111 1 (by simp [isW]) v q _ (get_old hg1) (get_old g2)⟩
            · obtain ⟨i', q, g1, g2⟩ := hrm.w 115 2 (by simp [isW])
              exact ⟨i', q, _, 1, g1, fun Y => fW_ct G 115 2 (by simp [isW]) v q _ (get_old hg1) (get_old g2)⟩
            · obtain ⟨i', q, g1, g2⟩ := hrm.w 108 4 (by simp [isW])
              exact ⟨i', q, _, 1, g1, fun Y => fW_ct G 108 4 (by simp [isW]) v q _ (get_old hg1) (get_old g2)⟩
            · obtain ⟨i', q, g1, g2⟩ := hrm.w 113 8 (by simp [isW])
              exact ⟨i', q, _, 1, g1, fun Y => fW_ct G 113 8 (by simp [isW]) v q _ (get_old hg1) (get_old g2)⟩
            · obtain ⟨i', q, g1, g2⟩ := hrm.w 98 0 (by simp [isW])
              exact ⟨i', q, _, 1, g1, fun Y => fW_ct G 98 0 (by simp [isW]) v q _ (get_old hg1) (get_old g2)⟩
            · obtain ⟨i', q, g1, g2⟩ := hrm.t 83 255 (by simp [isT])
              exact ⟨i', q, _, 2, g1, fun Y => fT_ct G 255 (by simp) v q _ (get_old hg2) (get_old g2)⟩
            · obtain ⟨i', q, g1, g2⟩ := hrm.t 76 131072 (by simp [isT])
              exact ⟨i', q, _, 2, g1, fun Y => fT_ct G 131072 (by simp) v q _ (get_old hg2) (get_old g2)⟩
            · obtain ⟨i', q, g1, g2⟩ := hrm.t 84 (-1) (by simp [isT])
              exact ⟨i', q, _, 2, g1, fun Y => (htb hbm).1 v q _ ((htb hbm).2 v (List.mem_of_getElem? hv)) (get_old hg2) (get_old g2)⟩
          obtain ⟨bs, hbs, hnd⟩ := hrm.keys
          have hne0 : decide (rl tb b v ≠ 0) = true → rl tb b v = vright tb s l := fun h => by
            rw [← hinv, hvr, if_pos (by simpa using h)]
          have heq0 : decide (rl tb b v ≠ 0) = false → rl tb b v = 0 ∧ vright tb (s.drop (j + 1)) (l.drop (j + 1)) = vright tb s l := fun h => by
            have h0 : rl tb b v = 0 := by simpa using h
            exact ⟨h0, by rw [← hinv, hvr, if_neg (by simp [h0])]⟩
          conv => whnf
          refine grd_intro hg (optK_intro hget ?_)
          conv => whnf
          try simp only [List.append_assoc, List.cons_append, List.nil_append, List.length_append, List.length_cons, List.length_nil, Nat.zero_add, Nat.add_assoc, Nat.reduceAdd, ga0, ga1, ga2, ga3, ga4, ga5, sa0, sa1, sa2, sa3, sa4, sa5, S2.setH_H, List.all_cons, List.all_nil, isDefd, nodupB, List.any_nil, Bool.and_true, Bool.not_false, List.foldl_cons, List.foldl_nil]
          conv => whnf
          intro hw2
          refine wpc_draw2 6 (by rfl) (by decide) (by decide) hw2 ?_
          conv => whnf
          refine grd_intro hd0 (optK_intro hgetb ?_)
          conv => whnf
          rw [get_old hg3]
          conv => whnf
          refine grd_intro rfl (evFind2_hit es bs i' 0 hbs hnd hi' ?_)
          conv => whnf
          try simp only [List.append_assoc, List.cons_append, List.nil_append, List.length_append, List.length_cons, List.length_nil, Nat.zero_add, Nat.add_assoc, Nat.reduceAdd, ga0, ga1, ga2, ga3, ga4, ga5, sa0, sa1, sa2, sa3, sa4, sa5, S2.setH_H, List.all_cons, List.all_nil, isDefd, nodupB, List.any_nil, Bool.and_true, Bool.not_false, List.foldl_cons, List.foldl_nil]
          conv => whnf
          refine Call2.mono (hcall _) fun r1 H1 h => ?_
          obtain ⟨e1, e2⟩ := h
          rw [e1, e2]
          clear e1 e2
          conv => whnf
          refine br_intro (fun hr => ?_) (fun hr => ?_)
          · have hr' := hne0 hr
            conv => whnf
            refine ⟨.im _, ?_⟩
            show V.int .i64 (rl tb b v) = V.int .i64 (if !true || decide ((s.length : Int) ≠ (l.length : Int)) then 7 else vright tb s l)
            rw [hres, hr']
          · obtain ⟨h0, hnext⟩ := heq0 hr
            conv => whnf
            intro hw3
            refine ⟨l.length - (j + 1), mrS s l (j + 1) H0, by omega, ?_, j + 1, by omega, rfl, rfl, hnext⟩
            exact weak2 hw3 rfl ⟨.ptr 0 0 (by show 0 < H0.length; omega), .str _, .mp 3 (by show 3 < H0.length; omega), .int h0, .dat _ _ _, .im _, .int hwj, trivial⟩ (bws_app hsc.bws _) (fun id hid => by cases hid) rfl (fun id hid => by cases hid)
        · rw [decide_eq_false_iff_not] at hge
          obtain rfl : j = l.length := by omega
          have h0 : vright tb s l = 0 := by
            rw [← hinv, List.drop_length, ← hlen, List.drop_length]; rfl
          conv => whnf
          refine ⟨.im _, ?_⟩
          show V.int .i64 0 = V.int .i64 (if !true || decide ((s.length : Int) ≠ (l.length : Int)) then 7 else vright tb s l)
          rw [hres, h0]

end Go.Abs.Sig

/-! LN1 -/
namespace Go.Abs.Sig
open Go.RowKit Go.Abs
set_option linter.unusedSimpArgs false
set_option linter.unusedVariables false
set_option maxRecDepth 8000
attribute [local irreducible] StCall StYield WPc Weak IterOf Lp2

/-- Is a place there? -/
def out (m : Met) (i : Int) : Bool := decide (i < 0) || decide (i ≥ (m.2.2.length : Int))
def argOf (m : Met) (i : Int) : Val' := if out m i then (0, []) else (m.2.2[i.toNat]?).getD (0, [])

theorem args_free {m : Met} {i : Int} : ∀ x ∈ [V.agg (mcells m), .int .i64 i], x.Free := fun x hx => by
  simp only [List.mem_cons, List.not_mem_nil, or_false] at hx
  rcases hx with rfl | rfl
  · exact mcells_free m
  · exact .im _

theorem arg_ct (G : Nat → Option (List V)) (m : Met) (i : Int) (H : Heap) : Call2 Go.Proofs.Tryz.prog G 120 [.agg (mcells m), .int .i64 i] H fun r H' => H' = H ∧ r = .agg (vcells (argOf m i)) := by
  refine Call2.free args_free ?_ H
  refine stCall2 Go.Proofs.Tryz.func120 rfl (by decide) ?_
  unfold argOf out
  obtain ⟨c, d, l⟩ := m
  have hvl : (vals l).length = l.length := by simp [vals]
  conv => whnf
  refine br_intro (fun h => ?_) (fun h => ?_)
  · have h' : decide (i < 0) = true := h
    conv => whnf
    refine ⟨vcells_free (0, []), ?_⟩
    rw [h']
    rfl
  · have h' : decide (i < 0) = false := h
    conv => whnf
    refine br_intro (fun h2 => ?_) (fun h2 => ?_)
    · have h2' : decide (i ≥ (l.length : Int)) = true := by rw [← hvl]; exact h2
      conv => whnf
      refine ⟨vcells_free (0, []), ?_⟩
      show _ = V.agg (vcells (if decide (i < 0) || decide (i ≥ (l.length : Int)) then (0, []) else _))
      rw [h', h2']
      rfl
    · have h2' : decide (i ≥ (l.length : Int)) = false := by rw [← hvl]; exact h2
      have h0 : decide (0 ≤ i) = true := by simp at h'; simp; omega
      have h1 : (true && true && decide (0 ≤ i)) = true := by simp [h0]
      have hi : i.toNat < l.length := by simp at h' h2'; omega
      have hget : (vals l)[i.toNat]? = some (vcells l[i.toNat]) := by unfold vals; simp [hi]; rfl
      conv => whnf
      refine grd_intro h1 (optK_intro hget ?_)
      conv => whnf
      refine ⟨vcells_free l[i.toNat], ?_⟩
      show V.agg (vcells l[i.toNat]) = V.agg (vcells (if decide (i < 0) || decide (i ≥ (l.length : Int)) then (0, []) else (l[i.toNat]?).getD (0, [])))
      rw [h', h2', List.getElem?_eq_getElem hi]
      rfl
/-! ### Same -/
def smS (a b : Met) (j : Nat) : S2 := headS 45 ([.bad, .bad, .ptr 0 0, .ptr 1 0, .bool false, .im (.int .i64 (j : Int))] ++ List.replicate 39 .bad) [some (.cells 37 (mcells a)), some (.cells 37 (mcells b))] [] none

theorem same_free {a b : Met} : ∀ x ∈ [V.agg (mcells a), .agg (mcells b)], x.Free := fun x hx => by
  simp only [List.mem_cons, List.not_mem_nil, or_false] at hx
  rcases hx with rfl | rfl
  · exact mcells_free a
  · exact mcells_free b

theorem val_eq {x y : Val'} : (decide (x.1 = y.1) && (decide (x.2 = y.2) && true)) = decide (x = y) := by
  rw [Bool.and_true, Bool.eq_iff_iff]
  simp only [Bool.and_eq_true, decide_eq_true_eq]
  exact ⟨fun h => Prod.ext h.1 h.2, fun h => by subst h; exact ⟨rfl, rfl⟩⟩

theorem bws_two (a b : Met) : BWs 2 [some (.cells 37 (mcells a)), some (.cells 37 (mcells b))] [some (.cells 37 (mcells a)), some (.cells 37 (mcells b))] :=
  .cons (.free (mcells_free' a)) (.cons (.free (mcells_free' b)) (.nil _))

theorem eqT32 : (!Go.Program.eqGuardType Go.Proofs.Tryz.prog (Go.Program.depth Go.Proofs.Tryz.prog) 50 && aggT Go.Proofs.Tryz.prog 50) = true := by kernel_rfl
theorem flat32 : flatEq Go.Proofs.Tryz.prog 50 50 = some [.i, .s] := by kernel_rfl

theorem eq32 (x y : Val') : cellsEq [.i, .s] (vcells x) (vcells y) = some (decide (x = y)) := by
  rw [← val_eq]; rfl

theorem rsame_ct (G : Nat → Option (List V)) (a b : Met) (hla : a.2.2.length ≤ maxLen) (H : Heap) : Call2 Go.Proofs.Tryz.prog G 27 [.agg (mcells a), .agg (mcells b)] H fun r H' => H' = H ∧ r = .bool (decide (a = b)) := by
  refine Call2.free same_free ?_ H
  refine stCall2 Go.Proofs.Tryz.func27 rfl (by decide) ?_
  obtain ⟨c, d, l⟩ := a
  obtain ⟨c', d', l'⟩ := b
  have hvl : (vals l).length = l.length := by simp [vals]
  have hvl' : (vals l').length = l'.length := by simp [vals]
  by_cases hall : c = c' ∧ d = d' ∧ l.length = l'.length
  · obtain ⟨rfl, rfl, hlen⟩ := hall
    have e1 : decide (c ≠ c) = false := by simp
    have e2 : decide (d ≠ d) = false := by simp
    have e3 : decide (((vals l).length : Int) ≠ ((vals l').length : Int)) = false := by simp [hvl, hvl', hlen]
    conv => whnf
    refine br_f e1 ?_
    conv => whnf
    refine br_f ?_ ?_
    · show bsel false true (decide (d ≠ d)) = false
      rw [e2]; rfl
    conv => whnf
    refine br_f ?_ ?_
    · show bsel false true (decide (((vals l).length : Int) ≠ ((vals l').length : Int))) = false
      rw [e3]; rfl
    conv => whnf
    intro hw
    refine wpc_loop2 (fun n1 s1 => ∃ j : Nat, j ≤ l.length ∧ n1 = l.length - j ∧ s1 = smS (c, d, l) (c, d, l') j ∧ l.take j = l'.take j) l.length (smS (c, d, l) (c, d, l') 0) ?_ ⟨0, by omega, rfl, rfl, rfl⟩ ?_ ?_
    · exact weak2 hw rfl ⟨.ptr 0 0 (of_decide_eq_true rfl), .ptr 1 0 (of_decide_eq_true rfl), .im _, .im _, trivial⟩ (bws_two _ _) (fun id hid => by cases hid) rfl (fun id hid => by cases hid)
    · rintro n1 s1 ⟨j, _, _, rfl, _⟩
      exact ⟨⟨Nat.le_refl 45, fun x hx => by cases hx⟩, rfl, Nat.le_refl _, rfl⟩
    · rintro n1 s1 ⟨j, hj, rfl, rfl, hinv⟩
      conv => whnf
      refine br_intro (fun hlt => ?_) (fun hge => ?_)
      · have hlt' : decide ((j : Int) < ((vals l).length : Int)) = true := hlt
        rw [decide_eq_true_eq, hvl] at hlt'
        have hjl : j < l.length := by omega
        have hd0 : (true && true && decide ((0 : Int) ≤ (j : Int))) = true := by simp
        have hg1 : (vals l)[Int.toNat (j : Int)]? = some (vcells l[j]) := vals_get (List.getElem?_eq_getElem hjl)
        have hg2 : (vals l')[Int.toNat (j : Int)]? = some (vcells (l'[j]'(by omega))) := vals_get (List.getElem?_eq_getElem (by omega))
        have hla' : l.length ≤ 9223372036854775807 := hla
        have hwj : IntKind.i64.wrap ((j : Int) + 1) = ((j + 1 : Nat) : Int) := by rw [wrap_i64 (by omega) (by omega)]; rfl
        have ht1 : l.take (j + 1) = l.take j ++ [l[j]] := by rw [List.take_succ_eq_append_getElem hjl]
        have ht2 : l'.take (j + 1) = l'.take j ++ [l'[j]'(by omega)] := by rw [List.take_succ_eq_append_getElem (by omega)]
        conv => whnf
        intro hw2
        refine wpc_draw2 11 (by rfl) (by decide) (by decide) hw2 ?_
        conv => whnf
        refine grd_intro hd0 (optK_intro hg1 ?_)
        conv => whnf
        refine grd_intro hd0 (optK_intro hg2 ?_)
        conv => whnf
        refine EqT.neq eqT32 flat32 (eq32 _ _) ?_
        conv => whnf
        refine br_intro (fun hne => ?_) (fun heq => ?_)
        · have hne' : (!(decide (l[j] = l'[j]'(by omega)))) = true := hne
          have hdiff : decide (((c, d, l) : Met) = (c, d, l')) = false := by
            simp only [decide_eq_false_iff_not, Prod.mk.injEq, true_and]
            intro h
            subst h
            simp at hne'
          conv => whnf
          refine ⟨.im _, ?_⟩
          rw [hdiff]
          rfl
        · have heq' : (!(decide (l[j] = l'[j]'(by omega)))) = false := heq
          have hsame : l[j] = l'[j]'(by omega) := by simpa using heq'
          conv => whnf
          intro hw3
          refine ⟨l.length - (j + 1), smS (c, d, l) (c, d, l') (j + 1), by omega, ?_, j + 1, by omega, rfl, rfl, ?_⟩
          · exact weak2 hw3 rfl ⟨.ptr 0 0 (of_decide_eq_true rfl), .ptr 1 0 (of_decide_eq_true rfl), .im _, .int hwj, trivial⟩ (bws_two _ _) (fun id hid => by cases hid) rfl (fun id hid => by cases hid)
          · rw [ht1, ht2, hinv, hsame]
      · have hge' : decide ((j : Int) < ((vals l).length : Int)) = false := hge
        rw [decide_eq_false_iff_not, hvl] at hge'
        have hjl : j = l.length := by omega
        have hsame : decide (((c, d, l) : Met) = (c, d, l')) = true := by
          rw [hjl, List.take_length, hlen, List.take_length] at hinv
          simp [hinv]
        conv => whnf
        refine ⟨.im _, ?_⟩
        rw [hsame]
        rfl
  · have hdiff : decide (((c, d, l) : Met) = (c', d', l')) = false := by
      simp only [decide_eq_false_iff_not, Prod.mk.injEq]
      rintro ⟨h1, h2, h3⟩
      exact hall ⟨h1, h2, by rw [h3]⟩
    rw [hdiff]
    cases e1 : decide (c ≠ c')
    · cases e2 : decide (d ≠ d')
      · have e3 : decide (((vals l).length : Int) ≠ ((vals l').length : Int)) = true := by
          rw [hvl, hvl']
          have h1 : c = c' := by simpa using e1
          have h2 : d = d' := by simpa using e2
          have h3 : l.length ≠ l'.length := fun h => hall ⟨h1, h2, h⟩
          simp
          omega
        conv => whnf
        refine br_f e1 ?_
        conv => whnf
        refine br_f ?_ ?_
        · show bsel false true (decide (d ≠ d')) = false
          rw [e2]; rfl
        conv => whnf
        refine br_t ?_ ?_
        · show bsel false true (decide (((vals l).length : Int) ≠ ((vals l').length : Int))) = true
          rw [e3]; rfl
        conv => whnf
        exact ⟨.im _, rfl⟩
      · conv => whnf
        refine br_f e1 ?_
        conv => whnf
        refine br_t ?_ ?_
        · show bsel false true (decide (d ≠ d')) = true
          rw [e2]; rfl
        conv => whnf
        exact ⟨.im _, rfl⟩
    · conv => whnf
      refine br_t e1 ?_
      conv => whnf
      exact ⟨.im _, rfl⟩

end Go.Abs.Sig

/-! LN2 -/
namespace Go.Abs.Sig
open Go.RowKit Go.Abs
set_option linter.unusedSimpArgs false
set_option linter.unusedVariables false
set_option maxRecDepth 8000
attribute [local irreducible] StCall StYield WPc Weak IterOf Lp2

theorem vals_row {l : List Val'} : ∀ r ∈ vals l, ∃ v : Val', r = vcells v := fun r hr => by
  unfold vals at hr
  obtain ⟨v, _, rfl⟩ := List.mem_map.1 hr
  exact ⟨v, rfl⟩

theorem clone_ct (G : Nat → Option (List V)) (l : List Val') (hl : l ≠ []) (hb : l.length * 24 ≤ maxBytes) (H : Heap) : Call2 Go.Proofs.Tryz.prog G 145 [.dat 2 (vals l) .no] H fun r H' => H' = H ++ [some (.cells 50 (vals l).flatten)] ∧ r = .arr H.length 2 l.length := by
  refine stCall2 Go.Proofs.Tryz.func145 rfl (by decide) ?_
  have hvl : (vals l).length = l.length := by simp [vals]
  have hne : vals l ≠ [] := fun h => by rw [h] at hvl; exact hl (List.eq_nil_of_length_eq_zero hvl.symm)
  conv => whnf
  intro b hbn
  have hb0 : b = false := by
    cases b with
    | false => rfl
    | true => exact absurd (hbn rfl) hne
  subst hb0
  conv => whnf
  refine ⟨.inl rfl, .inr rfl, ?_, ?_, ?_, .inr ⟨⟨rfl, hne, ?_⟩, ?_⟩⟩
  · intro r hr
    obtain ⟨v, rfl⟩ := vals_row r hr
    rfl
  · show (([] : List (List V)).length + (vals l).length) * 24 ≤ maxBytes
    rw [hvl]
    simpa using hb
  · show ([] : List (List V)).length + (vals l).length ≤ maxBytes
    rw [hvl]
    have : l.length * 24 ≤ maxBytes := hb
    simp
    omega
  · intro r hr v hv
    obtain ⟨x, rfl⟩ := vals_row r hr
    simp only [vcells, List.mem_cons, List.not_mem_nil, or_false] at hv
    rcases hv with rfl | rfl <;> rfl
  conv => whnf
  refine ⟨rfl, ?_⟩
  show V.arr H.length 2 (vals l).length = _
  rw [hvl]

def withOf (m : Met) (i : Int) (v : Val') : Met := if out m i then m else (m.1, m.2.1, m.2.2.set i.toNat v)

theorem vals_cons (x : Val') (l : List Val') : (vals (x :: l)).flatten = .int .u64 x.1 :: .str x.2 :: (vals l).flatten := rfl

theorem setRange_vals (v : Val') : ∀ (l : List Val') (i : Nat), i < l.length → setRange (vals l).flatten (i * 2) (vcells v) = (vals (l.set i v)).flatten
  | [], i, h => by simp at h
  | x :: l, 0, _ => by
    rw [vals_cons, List.set_cons_zero, vals_cons]
    unfold setRange vcells
    simp
  | x :: l, i + 1, h => by
    have ih := setRange_vals v l i (by simpa using h)
    rw [vals_cons, List.set_cons_succ, vals_cons, ← ih]
    unfold setRange
    have e1 : (i + 1) * 2 = i * 2 + 1 + 1 := by omega
    have e2 : (i + 1) * 2 + (vcells v).length = i * 2 + (vcells v).length + 1 + 1 := by omega
    rw [e2, e1]
    simp only [List.take_succ_cons, List.drop_succ_cons, List.cons_append]

theorem chunks_vals : ∀ (l : List Val'), chunks 2 l.length (vals l).flatten = vals l
  | [] => rfl
  | x :: l => by
    rw [vals_cons, List.length_cons]
    show _ :: chunks 2 l.length (vals l).flatten = _
    rw [chunks_vals l]
    rfl

theorem vals_flat_len (l : List Val') : (vals l).flatten.length = l.length * 2 := by
  rw [flatten_length (s := 2) (fun r hr => by obtain ⟨v, rfl⟩ := vals_row r hr; rfl)]
  simp [vals]

theorem vals_data (l : List Val') : ∀ v ∈ (vals l).flatten, v.dataCell = true := fun v hv => by
  obtain ⟨r, hr, hv⟩ := List.mem_flatten.1 hv
  obtain ⟨x, rfl⟩ := vals_row r hr
  simp only [vcells, List.mem_cons, List.not_mem_nil, or_false] at hv
  rcases hv with rfl | rfl <;> rfl

theorem wargs_free {m : Met} {i : Int} {v : Val'} : ∀ x ∈ [V.agg (mcells m), .int .i64 i, .agg (vcells v)], x.Free := fun x hx => by
  simp only [List.mem_cons, List.not_mem_nil, or_false] at hx
  rcases hx with rfl | rfl | rfl
  · exact mcells_free m
  · exact .im _
  · exact vcells_free v

theorem mcells_data (m : Met) : ∀ v ∈ mcells m, v.dataCell = true := fun v hv => by
  simp only [mcells, List.mem_cons, List.not_mem_nil, or_false] at hv
  rcases hv with rfl | rfl | rfl <;> rfl

theorem with_ct (G : Nat → Option (List V)) (m : Met) (i : Int) (v : Val') (hb : m.2.2.length * 24 ≤ maxBytes) (H : Heap) : Call2 Go.Proofs.Tryz.prog G 121 [.agg (mcells m), .int .i64 i, .agg (vcells v)] H fun r H' => H' = H ∧ r = .agg (mcells (withOf m i v)) := by
  refine Call2.free wargs_free ?_ H
  refine Call2.freeze ?_
  refine stCall2 Go.Proofs.Tryz.func121 rfl (by decide) ?_
  unfold withOf
  obtain ⟨c, d, l⟩ := m
  have hvl : (vals l).length = l.length := by simp [vals]
  cases h : out (c, d, l) i
  · have h0 : decide (i < 0) = false := by unfold out at h; simp only [Bool.or_eq_false_iff] at h; exact h.1
    have h1 : decide (i ≥ ((vals l).length : Int)) = false := by unfold out at h; simp only [Bool.or_eq_false_iff] at h; rw [hvl]; exact h.2
    have hi : i.toNat < l.length := by rw [hvl] at h1; simp at h0 h1; omega
    have hne : l ≠ [] := fun h => by rw [h] at hi; simp at hi
    conv => whnf
    refine br_f h0 ?_
    conv => whnf
    refine br_f ?_ ?_
    · show bsel false true (decide (i ≥ ((vals l).length : Int))) = false
      rw [h1]; rfl
    conv => whnf
    refine Call2.mono (clone_ct G l hne hb _) fun r0 H0 h => ?_
    obtain ⟨h1, h2⟩ := h
    rw [h1, h2]
    clear h1 h2 r0 H0
    conv => whnf
    refine grd_intro ?_ ?_
    · show (true && decide (0 ≤ i) && decide (i < (l.length : Int))) = true
      simp at h0
      simp
      omega
    conv => whnf
    refine grd_intro ?_ ?_
    · show (true && Nat.ble (i.toNat * 2 + 2) (vals l).flatten.length && true) = true
      rw [vals_flat_len]
      simp only [Bool.true_and, Bool.and_true, Nat.ble_eq]
      omega
    conv => whnf
    refine ⟨3, 50, (vals (l.set i.toNat v)).flatten, _, Nat.zero_le _, ?_, vals_data _, ?_, mcells_free (c, d, l.set i.toNat v), rfl⟩
    · show some (some (Blk.cells 50 (setRange (vals l).flatten (i.toNat * 2) (vcells v)))) = _
      rw [setRange_vals v l _ hi]
    · refine .agg _ _ rfl fun j v1 v2 h1 h2 => ?_
      match j with
      | 0 => cases h1; cases h2; exact .same _
      | 1 => cases h1; cases h2; exact .same _
      | 2 =>
        cases h1
        cases h2
        have := Fz.arr (id := 3) (vs := (vals (l.set i.toNat v)).flatten) 2 l.length (by rw [vals_flat_len, List.length_set]; exact Nat.le_refl _) (by decide)
        have he : chunks 2 l.length (vals (l.set i.toNat v)).flatten = vals (l.set i.toNat v) := by
          have := chunks_vals (l.set i.toNat v)
          rwa [List.length_set] at this
        rw [he] at this
        exact this
      | j + 3 => simp [mcells] at h2
  · have fin : ∀ r : V, r = .agg (mcells (c, d, l)) → ∀ H' : Heap, H'[0]? = some (some (.cells 37 (mcells (c, d, l)))) → ∃ id t vs r', ([] : Heap).length ≤ id ∧ H'[id]? = some (some (.cells t vs)) ∧ (∀ v ∈ vs, v.dataCell = true) ∧ Fz id vs r r' ∧ (r'.Free ∧ r' = .agg (mcells (c, d, l))) := by
      rintro r rfl H' h0
      exact ⟨0, 37, _, _, Nat.zero_le _, h0, mcells_data _, .same _, mcells_free _, rfl⟩
    cases h0 : decide (i < 0)
    · have h1 : decide (i ≥ ((vals l).length : Int)) = true := by
        unfold out at h
        rw [hvl]
        simpa [h0] using h
      conv => whnf
      refine br_f h0 ?_
      conv => whnf
      refine br_t ?_ ?_
      · show bsel false true (decide (i ≥ ((vals l).length : Int))) = true
        rw [h1]; rfl
      conv => whnf
      exact fin _ rfl _ rfl
    · conv => whnf
      refine br_t h0 ?_
      conv => whnf
      exact fin _ rfl _ rfl

end Go.Abs.Sig

/-! LN3 -/
namespace Go.Abs.Sig
open Go.RowKit Go.Abs
set_option linter.unusedSimpArgs false
set_option linter.unusedVariables false
set_option maxRecDepth 8000
attribute [local irreducible] StCall StYield WPc Weak IterOf Lp2

end Go.Abs.Sig

/-! LN4 -/
namespace Go.Abs.Sig
open Go.RowKit Go.Abs
set_option linter.unusedSimpArgs false
set_option linter.unusedVariables false
set_option maxRecDepth 8000
attribute [local irreducible] StCall StYield WPc Weak IterOf Lp2

def ixF : List Int → Nat → Int → Int
  | [], _, _ => -1
  | x :: l, k, n => if decide (n = x) then (k : Int) else ixF l (k + 1) n

theorem ixF_mem (n : Int) : ∀ (l : List Int) (k : Nat), decide (ixF l k n ≥ 0) = l.contains n
  | [], k => rfl
  | x :: l, k => by
    unfold ixF
    rw [List.contains_cons]
    cases h : decide (n = x)
    · have h' : ¬ n = x := by simpa using h
      have hb : (n == x) = false := by simpa using h'
      rw [hb, Bool.false_or, ← ixF_mem n l (k + 1)]
      rfl
    · have h' : n = x := by simpa using h
      have hb : (n == x) = true := by simpa using h'
      rw [hb]
      simp

def intR (l : List Int) : List (List V) := l.map fun x => [.int .i64 x]
theorem intR_len (l : List Int) : (intR l).length = l.length := by simp [intR]

def ixnS (l : List Int) (n : Int) (j : Nat) : S2 := headS 19 ([.dat 1 (intR l) .no, .int .i64 n, .bad, .bad, .bad, .bad, .bad, .int .i64 (l.length : Int), .int .i64 (j : Int)] ++ List.replicate 10 .bad) [] [] none

theorem index_ct (G : Nat → Option (List V)) (l : List Int) (n : Int) (hl : l.length ≤ maxBytes) (H : Heap) : Call2 Go.Proofs.Tryz.prog G 193 [.dat 1 (intR l) .no, .int .i64 n] H fun r H' => H' = H ∧ r = .int .i64 (ixF l 0 n) := by
  refine Call2.free (fun x hx => by
    simp only [List.mem_cons, List.not_mem_nil, or_false] at hx
    rcases hx with rfl | rfl
    · exact .dat _ _ _ (by simp)
    · exact .im _) ?_ H
  refine stCall2 Go.Proofs.Tryz.func193 rfl (by decide) ?_
  have hl' : l.length ≤ 140737488355328 := hl
  conv => whnf
  intro hw
  refine wpc_loop2 (fun n1 s1 => ∃ j : Nat, j ≤ l.length ∧ n1 = l.length - j ∧ s1 = ixnS l n j ∧ ixF (l.drop j) j n = ixF l 0 n) l.length (ixnS l n 0) ?_ ⟨0, by omega, rfl, rfl, rfl⟩ ?_ ?_
  · exact weak2 hw rfl ⟨.dat _ _ _, .im _, .int (by rw [intR_len]), .im _, trivial⟩ (.nil _) (fun id hid => by cases hid) rfl (fun id hid => by cases hid)
  · rintro n1 s1 ⟨j, _, _, rfl, _⟩
    exact ⟨⟨Nat.le_refl 19, fun x hx => by cases hx⟩, rfl, Nat.le_refl _, rfl⟩
  · rintro n1 s1 ⟨j, hj, rfl, rfl, hinv⟩
    conv => whnf
    refine br_intro (fun hlt => ?_) (fun hge => ?_)
    · have hlt' : decide ((j : Int) < (l.length : Int)) = true := hlt
      rw [decide_eq_true_eq] at hlt'
      have hjl : j < l.length := by omega
      have hd0 : (true && true && decide ((0 : Int) ≤ (j : Int))) = true := by simp
      have hget : (intR l)[Int.toNat (j : Int)]? = some [.int .i64 l[j]] := by
        show (intR l)[j]? = _
        unfold intR
        rw [List.getElem?_map, List.getElem?_eq_getElem hjl]; rfl
      have hwj : IntKind.i64.wrap ((j : Int) + 1) = ((j + 1 : Nat) : Int) := by rw [wrap_i64 (by omega) (by omega)]; rfl
      have hstep : ixF (l.drop j) j n = if decide (n = l[j]) then (j : Int) else ixF (l.drop (j + 1)) (j + 1) n := by
        rw [List.drop_eq_getElem_cons hjl]; rfl
      conv => whnf
      refine grd_intro hd0 (optK_intro hget ?_)
      conv => whnf
      refine br_intro (fun he => ?_) (fun he => ?_)
      · have he' : decide (n = l[j]) = true := he
        rw [he', if_pos rfl] at hstep
        conv => whnf
        refine ⟨.im _, ?_⟩
        rw [← hinv, hstep]
        rfl
      · have he' : decide (n = l[j]) = false := he
        rw [he', if_neg (by simp)] at hstep
        conv => whnf
        intro hw3
        refine ⟨l.length - (j + 1), ixnS l n (j + 1), by omega, ?_, j + 1, by omega, rfl, rfl, by rw [← hstep, hinv]⟩
        exact weak2 hw3 rfl ⟨.dat _ _ _, .im _, .im _, .int hwj, trivial⟩ (.nil _) (fun id hid => by cases hid) rfl (fun id hid => by cases hid)
    · have hge' : decide ((j : Int) < (l.length : Int)) = false := hge
      rw [decide_eq_false_iff_not] at hge'
      have hjl : j = l.length := by omega
      rw [hjl, List.drop_length] at hinv
      conv => whnf
      refine ⟨.im _, ?_⟩
      rw [← hinv]
      rfl

theorem contains_ct (G : Nat → Option (List V)) (l : List Int) (n : Int) (hl : l.length ≤ maxBytes) (H : Heap) : Call2 Go.Proofs.Tryz.prog G 192 [.dat 1 (intR l) .no, .int .i64 n] H fun r H' => H' = H ∧ r = .bool (l.contains n) := by
  refine Call2.free (fun x hx => by
    simp only [List.mem_cons, List.not_mem_nil, or_false] at hx
    rcases hx with rfl | rfl
    · exact .dat _ _ _ (by simp)
    · exact .im _) ?_ H
  refine stCall2 Go.Proofs.Tryz.func192 rfl (by decide) ?_
  rw [← ixF_mem n l 0]
  conv => whnf
  refine Call2.mono (index_ct G l n hl _) fun r0 H0 h => ?_
  obtain ⟨h1, h2⟩ := h
  rw [h1, h2]
  clear h1 h2 r0 H0
  conv => whnf
  exact ⟨.im _, rfl⟩

/-- The package variable num.widths. -/
def wV : List V := [.int .i64 1, .int .i64 2, .int .i64 4, .int .i64 8]

theorem asRp_ev {G : Nat → Option (List V)} {g : Nat} {cs : List V} (hG : G g = some cs) (s : S2) : asRp G (s.ev (.global g)) = .rp cs := by
  show asRp G (.im (.pointer (some ⟨g, 0, none⟩))) = _
  unfold asRp
  simp only [hG]

theorem nwidth_ct (G : Nat → Option (List V)) (hG : G 1 = some wV) (n : Int) (H : Heap) : Call2 Go.Proofs.Tryz.prog G 187 [.int .i64 n] H fun r H' => H' = H ∧ r = .bool ([1, 2, 4, 8].contains n) := by
  refine Call2.free (fun x hx => by
    simp only [List.mem_cons, List.not_mem_nil, or_false] at hx
    subst hx
    exact .im _) ?_ H
  refine stCall2 Go.Proofs.Tryz.func187 rfl (by decide) ?_
  conv => whnf
  rw [asRp_ev hG]
  conv => whnf
  refine Call2.mono (contains_ct G [1, 2, 4, 8] n (by decide) _) fun r0 H0 h => ?_
  obtain ⟨h1, h2⟩ := h
  rw [h1, h2]
  clear h1 h2 r0 H0
  conv => whnf
  exact ⟨.im _, rfl⟩

end Go.Abs.Sig

/-! LM6 -/
namespace Go.Abs.Sig
open Go.RowKit Go.Abs
set_option linter.unusedSimpArgs false
set_option linter.unusedVariables false
set_option maxRecDepth 8000
attribute [local irreducible] StCall StYield WPc Weak IterOf Lp2

def two (a b : Int) : List V := [.int .i64 a, .int .i64 b]
end Go.Abs.Sig

/-! LM7 -/
namespace Go.Abs.Sig
open Go.RowKit Go.Abs
set_option linter.unusedSimpArgs false
set_option linter.unusedVariables false
set_option maxRecDepth 8000
attribute [local irreducible] StCall StYield WPc Weak IterOf Lp2

theorem u8w (x : Int) : ((UInt8.ofNat (IntKind.u8.wrap x).toNat).toNat : Int) = IntKind.u8.wrap x := by
  have h : 0 ≤ IntKind.u8.wrap x ∧ IntKind.u8.wrap x < 256 := by
    simp only [IntKind.wrap, IntKind.bits, IntKind.signed]
    simp
    omega
  rw [UInt8.toNat_ofNat', Nat.mod_eq_of_lt (by omega)]
  omega

end Go.Abs.Sig

/-! LN5 -/
namespace Go.Abs.Sig
open Go.RowKit Go.Abs
set_option linter.unusedSimpArgs false
set_option linter.unusedVariables false
set_option maxRecDepth 8000
attribute [local irreducible] StCall StYield WPc Weak IterOf Lp2

def byteAt (v : Int) (i : Nat) : UInt8 := UInt8.ofNat (IntKind.u8.wrap (v.fdiv (2 ^ (8 * i)))).toNat
def putB (n : Nat) (v : Int) : List UInt8 := (List.range n).reverse.map (byteAt v)
def byteV (v : Int) (i : Nat) : V := .int .u8 ((byteAt v i).toNat : Int)
theorem putB_succ (n : Nat) (v : Int) : putB (n + 1) v = byteAt v n :: putB n v := by
  unfold putB
  rw [List.range_succ, List.reverse_append]
  rfl
theorem putB_len (n : Nat) (v : Int) : (putB n v).length = n := by simp [putB]

/-- What num.Put answers, of a number of bytes that there is. -/
def tooBig (n : Nat) (v : Int) : Bool := bsel (decide ((n : Int) < 8)) (decide (v.fdiv (2 ^ (8 * n)) ≠ 0)) false
def nput (n : Nat) (v : Int) : List UInt8 × Int := if tooBig n v then ([], 4) else (putB n v, 0)

def u8L (l : List UInt8) : List V := l.map fun b => V.int .u8 (b.toNat : Int)
def npH (n : Nat) (v : Int) (i : Nat) : Heap := [some (.cells 5 (List.replicate (n - i) (.int .u8 0) ++ u8L (putB i v)))]
def npS (n : Nat) (v : Int) (i : Nat) : S2 := headS 44 ([.int .i64 (n : Int), .int .u64 v, .bad, .bad, .bad, .bad, .bad, .arr 0 1 n] ++ List.replicate 18 .bad ++ [.int .i64 (n : Int), .int .i64 (i : Int)] ++ List.replicate 16 .bad) (npH n v i) [] none

theorem setRange_mid (A B : List V) (x y : V) : setRange (A ++ x :: B) A.length [y] = A ++ y :: B := by
  unfold setRange
  simp

theorem sh8 {v : Int} {n : Nat} (hn : n ≤ 8) : v.fdiv (2 ^ min (IntKind.i64.wrap (8 * (n : Int))).toNat 64) = v.fdiv (2 ^ (8 * n)) := by
  rw [wrap_i64 (by omega) (by omega)]
  have : min (8 * (n : Int)).toNat 64 = 8 * n := by omega
  rw [this]

theorem u8_free (k : Nat) (l : List UInt8) : ∀ v ∈ List.replicate k (V.int .u8 0) ++ u8L l, v.Free := fun v hv => by
  rcases List.mem_append.1 hv with h | h
  · rw [List.eq_of_mem_replicate h]; exact .im _
  · obtain ⟨b, _, rfl⟩ := List.mem_map.1 h
    exact .im _

theorem strE_free {l : List UInt8} {e : Int} : (V.tup [.str l, .int .i64 e]).Free := free_tup2 (.str _) (.im _)

theorem nput_ct (G : Nat → Option (List V)) (hG : G 1 = some wV) (n : Nat) (hn : n = 1 ∨ n = 2 ∨ n = 4 ∨ n = 8) (v : Int) (H : Heap) : Call2 Go.Proofs.Tryz.prog G 185 [.int .i64 (n : Int), .int .u64 v] H fun r H' => H' = H ∧ r = .tup [.str (nput n v).1, .int .i64 (nput n v).2] := by
  refine Call2.free (fun x hx => by
    simp only [List.mem_cons, List.not_mem_nil, or_false] at hx
    rcases hx with rfl | rfl <;> exact .im _) ?_ H
  refine stCall2 Go.Proofs.Tryz.func185 rfl (by decide) ?_
  have hn8 : n ≤ 8 := by omega
  have hn1 : 1 ≤ n := by omega
  have hcon : [1, 2, 4, 8].contains (n : Int) = true := by rcases hn with rfl | rfl | rfl | rfl <;> rfl
  have hm0 : IntKind.i64.wrap (8 * (n : Int)) = 8 * (n : Int) := wrap_i64 (by omega) (by omega)
  unfold nput tooBig
  cases h8 : decide ((n : Int) < 8)
  · conv => whnf
    refine Call2.mono (nwidth_ct G hG n _) fun r0 H0 h => ?_
    obtain ⟨h1, h2⟩ := h
    rw [h1, h2, hcon]
    clear h1 h2 r0 H0
    conv => whnf
    refine br_f h8 ?_
    conv => whnf
    refine ⟨⟨rfl, by omega, by show (n : Int) ≤ 140737488355328; omega, by show (1 : Int) * (n : Int) ≤ 140737488355328; omega⟩, ?_⟩
    conv => whnf
    intro hw
    refine wpc_loop2 (fun n1 s1 => ∃ i : Nat, i ≤ n ∧ n1 = n - i ∧ s1 = npS n v i) n (npS n v 0) ?_ ⟨0, by omega, rfl, rfl⟩ ?_ ?_
    · refine weak2 hw rfl ⟨.im _, .im _, .arr 0 1 n (of_decide_eq_true rfl), .im _, .im _, trivial⟩ (.cons ?_ (.nil _)) (fun id hid => by cases hid) rfl (fun id hid => by cases hid)
      have he : (List.replicate (n : Int).toNat [V.int .u8 0]).flatten = List.replicate (n - 0) (V.int .u8 0) ++ u8L (putB 0 v) := by
        show _ = List.replicate n (V.int .u8 0) ++ []
        rw [List.append_nil, Int.toNat_natCast]
        simp
      show BW _ (some (.cells 5 (List.replicate (n : Int).toNat [V.int .u8 0]).flatten)) _
      rw [he]
      exact .free (u8_free _ _)
    · rintro n1 s1 ⟨i, _, _, rfl⟩
      exact ⟨⟨Nat.le_refl 44, fun x hx => by cases hx⟩, rfl, Nat.le_refl _, rfl⟩
    · rintro n1 s1 ⟨i, hi, rfl, rfl⟩
      conv => whnf
      refine br_intro (fun hlt => ?_) (fun hge => ?_)
      · have hlt' : decide ((i : Int) < (n : Int)) = true := hlt
        rw [decide_eq_true_eq] at hlt'
        have hil : i < n := by omega
        have hwj : IntKind.i64.wrap ((i : Int) + 1) = ((i + 1 : Nat) : Int) := by rw [wrap_i64 (by omega) (by omega)]; rfl
        have hix : IntKind.i64.wrap (IntKind.i64.wrap ((n : Int) - 1) - (i : Int)) = ((n - 1 - i : Nat) : Int) := by
          rw [wrap_i64 (n := (n : Int) - 1) (by omega) (by omega), wrap_i64 (by omega) (by omega)]; omega
        have hm1 : IntKind.i64.wrap (8 * (i : Int)) = 8 * (i : Int) := wrap_i64 (by omega) (by omega)
        have hl1 : (List.replicate (n - i) (V.int .u8 0) ++ u8L (putB i v)).length = n := by
          simp [u8L, putB_len]; omega
        have hset : setRange (List.replicate (n - i) (V.int .u8 0) ++ u8L (putB i v)) ((n - 1 - i) * 1) [byteV v i] = List.replicate (n - (i + 1)) (V.int .u8 0) ++ u8L (putB (i + 1) v) := by
          have e1 : List.replicate (n - i) (V.int .u8 0) = List.replicate (n - (i + 1)) (V.int .u8 0) ++ [V.int .u8 0] := by
            rw [show n - i = (n - (i + 1)) + 1 by omega, List.replicate_succ']
          have e2 : (n - 1 - i) * 1 = (List.replicate (n - (i + 1)) (V.int .u8 0)).length := by simp; omega
          rw [e1, List.append_assoc, List.singleton_append, e2, setRange_mid, putB_succ]
          rfl
        conv => whnf
        refine ⟨by rw [hm1]; omega, ?_⟩
        conv => whnf
        refine grd_intro ?_ ?_
        · show (true && decide ((0 : Int) ≤ IntKind.i64.wrap (IntKind.i64.wrap ((n : Int) - 1) - (i : Int))) && decide (IntKind.i64.wrap (IntKind.i64.wrap ((n : Int) - 1) - (i : Int)) < (n : Int))) = true
          rw [hix]
          simp
          omega
        conv => whnf
        refine grd_intro ?_ ?_
        · show (true && Nat.ble ((IntKind.i64.wrap (IntKind.i64.wrap ((n : Int) - 1) - (i : Int))).toNat * 1 + 1) (List.replicate (n - i) (V.int .u8 0) ++ u8L (putB i v)).length && true) = true
          rw [hix, hl1]
          simp only [Bool.true_and, Bool.and_true, Nat.ble_eq]
          omega
        conv => whnf
        intro hw3
        refine ⟨n - (i + 1), npS n v (i + 1), by omega, ?_, i + 1, by omega, rfl, rfl⟩
        refine weak2 hw3 rfl ⟨.im _, .im _, .arr 0 1 n (of_decide_eq_true rfl), .im _, .int hwj, trivial⟩ (.cons ?_ (.nil _)) (fun id hid => by cases hid) rfl (fun id hid => by cases hid)
        show BW _ (some (.cells 5 (setRange (List.replicate (n - i) (V.int .u8 0) ++ u8L (putB i v)) ((IntKind.i64.wrap (IntKind.i64.wrap ((n : Int) - 1) - (i : Int))).toNat * 1) [V.int .u8 (IntKind.u8.wrap (v.fdiv (2 ^ min (IntKind.i64.wrap (8 * (i : Int))).toNat 64)))]))) _
        have hbv : V.int .u8 (IntKind.u8.wrap (v.fdiv (2 ^ min (IntKind.i64.wrap (8 * (i : Int))).toNat 64))) = byteV v i := by
          rw [sh8 (by omega)]
          unfold byteV byteAt
          rw [u8w]
        rw [hix, hbv, Int.toNat_natCast, hset]
        exact .free (u8_free _ _)
      · have hge' : decide ((i : Int) < (n : Int)) = false := hge
        rw [decide_eq_false_iff_not] at hge'
        have hin : i = n := by omega
        subst hin
        conv => whnf
        refine ⟨rfl, rfl, putB i v, ⟨putB_len i v, ?_⟩, ?_⟩
        · show (List.replicate (i - i) (V.int .u8 0) ++ u8L (putB i v)).take i = _
          rw [Nat.sub_self, List.take_of_length_le (by simp [u8L, putB_len])]
          rfl
        conv => whnf
        exact ⟨strE_free, rfl⟩
  · cases hz : decide (v.fdiv (2 ^ (8 * n)) ≠ 0)
    · conv => whnf
      refine Call2.mono (nwidth_ct G hG n _) fun r0 H0 h => ?_
      obtain ⟨h1, h2⟩ := h
      rw [h1, h2, hcon]
      clear h1 h2 r0 H0
      conv => whnf
      refine br_t h8 ?_
      conv => whnf
      refine ⟨by rw [hm0]; omega, ?_⟩
      conv => whnf
      refine br_f ?_ ?_
      · show decide (v.fdiv (2 ^ min (IntKind.i64.wrap (8 * (n : Int))).toNat 64) ≠ 0) = false
        rw [sh8 hn8]; exact hz
      conv => whnf
      refine ⟨⟨rfl, by omega, by show (n : Int) ≤ 140737488355328; omega, by show (1 : Int) * (n : Int) ≤ 140737488355328; omega⟩, ?_⟩
      conv => whnf
      intro hw
      refine wpc_loop2 (fun n1 s1 => ∃ i : Nat, i ≤ n ∧ n1 = n - i ∧ s1 = npS n v i) n (npS n v 0) ?_ ⟨0, by omega, rfl, rfl⟩ ?_ ?_
      · refine weak2 hw rfl ⟨.im _, .im _, .arr 0 1 n (of_decide_eq_true rfl), .im _, .im _, trivial⟩ (.cons ?_ (.nil _)) (fun id hid => by cases hid) rfl (fun id hid => by cases hid)
        have he : (List.replicate (n : Int).toNat [V.int .u8 0]).flatten = List.replicate (n - 0) (V.int .u8 0) ++ u8L (putB 0 v) := by
          show _ = List.replicate n (V.int .u8 0) ++ []
          rw [List.append_nil, Int.toNat_natCast]
          simp
        show BW _ (some (.cells 5 (List.replicate (n : Int).toNat [V.int .u8 0]).flatten)) _
        rw [he]
        exact .free (u8_free _ _)
      · rintro n1 s1 ⟨i, _, _, rfl⟩
        exact ⟨⟨Nat.le_refl 44, fun x hx => by cases hx⟩, rfl, Nat.le_refl _, rfl⟩
      · rintro n1 s1 ⟨i, hi, rfl, rfl⟩
        conv => whnf
        refine br_intro (fun hlt => ?_) (fun hge => ?_)
        · have hlt' : decide ((i : Int) < (n : Int)) = true := hlt
          rw [decide_eq_true_eq] at hlt'
          have hil : i < n := by omega
          have hwj : IntKind.i64.wrap ((i : Int) + 1) = ((i + 1 : Nat) : Int) := by rw [wrap_i64 (by omega) (by omega)]; rfl
          have hix : IntKind.i64.wrap (IntKind.i64.wrap ((n : Int) - 1) - (i : Int)) = ((n - 1 - i : Nat) : Int) := by
            rw [wrap_i64 (n := (n : Int) - 1) (by omega) (by omega), wrap_i64 (by omega) (by omega)]; omega
          have hm1 : IntKind.i64.wrap (8 * (i : Int)) = 8 * (i : Int) := wrap_i64 (by omega) (by omega)
          have hl1 : (List.replicate (n - i) (V.int .u8 0) ++ u8L (putB i v)).length = n := by
            simp [u8L, putB_len]; omega
          have hset : setRange (List.replicate (n - i) (V.int .u8 0) ++ u8L (putB i v)) ((n - 1 - i) * 1) [byteV v i] = List.replicate (n - (i + 1)) (V.int .u8 0) ++ u8L (putB (i + 1) v) := by
            have e1 : List.replicate (n - i) (V.int .u8 0) = List.replicate (n - (i + 1)) (V.int .u8 0) ++ [V.int .u8 0] := by
              rw [show n - i = (n - (i + 1)) + 1 by omega, List.replicate_succ']
            have e2 : (n - 1 - i) * 1 = (List.replicate (n - (i + 1)) (V.int .u8 0)).length := by simp; omega
            rw [e1, List.append_assoc, List.singleton_append, e2, setRange_mid, putB_succ]
            rfl
          conv => whnf
          refine ⟨by rw [hm1]; omega, ?_⟩
          conv => whnf
          refine grd_intro ?_ ?_
          · show (true && decide ((0 : Int) ≤ IntKind.i64.wrap (IntKind.i64.wrap ((n : Int) - 1) - (i : Int))) && decide (IntKind.i64.wrap (IntKind.i64.wrap ((n : Int) - 1) - (i : Int)) < (n : Int))) = true
            rw [hix]
            simp
            omega
          conv => whnf
          refine grd_intro ?_ ?_
          · show (true && Nat.ble ((IntKind.i64.wrap (IntKind.i64.wrap ((n : Int) - 1) - (i : Int))).toNat * 1 + 1) (List.replicate (n - i) (V.int .u8 0) ++ u8L (putB i v)).length && true) = true
            rw [hix, hl1]
            simp only [Bool.true_and, Bool.and_true, Nat.ble_eq]
            omega
          conv => whnf
          intro hw3
          refine ⟨n - (i + 1), npS n v (i + 1), by omega, ?_, i + 1, by omega, rfl, rfl⟩
          refine weak2 hw3 rfl ⟨.im _, .im _, .arr 0 1 n (of_decide_eq_true rfl), .im _, .int hwj, trivial⟩ (.cons ?_ (.nil _)) (fun id hid => by cases hid) rfl (fun id hid => by cases hid)
          show BW _ (some (.cells 5 (setRange (List.replicate (n - i) (V.int .u8 0) ++ u8L (putB i v)) ((IntKind.i64.wrap (IntKind.i64.wrap ((n : Int) - 1) - (i : Int))).toNat * 1) [V.int .u8 (IntKind.u8.wrap (v.fdiv (2 ^ min (IntKind.i64.wrap (8 * (i : Int))).toNat 64)))]))) _
          have hbv : V.int .u8 (IntKind.u8.wrap (v.fdiv (2 ^ min (IntKind.i64.wrap (8 * (i : Int))).toNat 64))) = byteV v i := by
            rw [sh8 (by omega)]
            unfold byteV byteAt
            rw [u8w]
          rw [hix, hbv, Int.toNat_natCast, hset]
          exact .free (u8_free _ _)
        · have hge' : decide ((i : Int) < (n : Int)) = false := hge
          rw [decide_eq_false_iff_not] at hge'
          have hin : i = n := by omega
          subst hin
          conv => whnf
          refine ⟨rfl, rfl, putB i v, ⟨putB_len i v, ?_⟩, ?_⟩
          · show (List.replicate (i - i) (V.int .u8 0) ++ u8L (putB i v)).take i = _
            rw [Nat.sub_self, List.take_of_length_le (by simp [u8L, putB_len])]
            rfl
          conv => whnf
          exact ⟨strE_free, rfl⟩
    · conv => whnf
      refine Call2.mono (nwidth_ct G hG n _) fun r0 H0 h => ?_
      obtain ⟨h1, h2⟩ := h
      rw [h1, h2, hcon]
      clear h1 h2 r0 H0
      conv => whnf
      refine br_t h8 ?_
      conv => whnf
      refine ⟨by rw [hm0]; omega, ?_⟩
      conv => whnf
      refine br_t ?_ ?_
      · show decide (v.fdiv (2 ^ min (IntKind.i64.wrap (8 * (n : Int))).toNat 64) ≠ 0) = true
        rw [sh8 hn8]; exact hz
      conv => whnf
      exact ⟨strE_free, rfl⟩

end Go.Abs.Sig

/-! LP1 -/
namespace Go.Abs.Sig
open Go.RowKit Go.Abs
set_option linter.unusedSimpArgs false
set_option linter.unusedVariables false
set_option maxRecDepth 8000
attribute [local irreducible] StCall StYield WPc Weak IterOf Lp2

/-- A number of bytes, the greatest first. -/
def beN (l : List UInt8) : Nat := l.foldl (fun v b => v * 256 + b.toNat) 0
theorem beN_snoc (l : List UInt8) (b : UInt8) : beN (l ++ [b]) = beN l * 256 + b.toNat := by simp [beN]
theorem beN_lt : ∀ (n : Nat) (l : List UInt8), l.length = n → beN l < 256 ^ n
  | 0, l, h => by rw [List.eq_nil_of_length_eq_zero h]; decide
  | n + 1, l, h => by
    have hne : l ≠ [] := fun hl => by rw [hl] at h; simp at h
    rw [← List.dropLast_concat_getLast hne, beN_snoc]
    have := beN_lt n l.dropLast (by simp [h])
    have hb := (l.getLast hne).toNat_lt
    rw [Nat.pow_succ]
    omega

/-- What num.Take answers. -/
def ntake (s : List UInt8) (n : Nat) : Nat × List UInt8 × Int := if s.length < n then (0, [], 2) else (beN (s.take n), s.drop n, 0)
def ntV (x : Nat × List UInt8 × Int) : V := .tup [.int .u64 (x.1 : Int), .str x.2.1, .int .i64 x.2.2]
theorem ntV_free (x : Nat × List UInt8 × Int) : (ntV x).Free := .tup _ fun v hv => by
  simp only [List.mem_cons, List.not_mem_nil, or_false] at hv
  rcases hv with rfl | rfl | rfl
  · exact .im _
  · exact .str _
  · exact .im _

theorem take_snoc {s : List UInt8} {j : Nat} {b : UInt8} (h : s[j]? = some b) : s.take (j + 1) = s.take j ++ [b] := by
  rw [List.take_add_one, h]; rfl

theorem or8 {v : Nat} {b : UInt8} (hv : v < 256 ^ 7) : IntKind.u64.wrap (BitVec.ofInt 64 (IntKind.u64.wrap ((v : Int) * 2 ^ min (8 : Int).toNat 64)) ||| BitVec.ofInt 64 (IntKind.u64.wrap (b.toNat : Int))).toNat = ((v * 256 + b.toNat : Nat) : Int) := by
  have hb := b.toNat_lt
  have h1 : IntKind.u64.wrap ((v : Int) * 2 ^ min (8 : Int).toNat 64) = ((v * 256 : Nat) : Int) := by
    rw [show min (8 : Int).toNat 64 = 8 from rfl]
    simp [IntKind.wrap, IntKind.bits, IntKind.signed]
    omega
  have h2 : IntKind.u64.wrap (b.toNat : Int) = ((b.toNat : Nat) : Int) := by
    simp [IntKind.wrap, IntKind.bits, IntKind.signed]
    omega
  rw [h1, h2, BitVec.toNat_or, BitVec.toNat_ofInt, BitVec.toNat_ofInt]
  have h3 : ((((v * 256 : Nat) : Int) % ((2 ^ 64 : Nat) : Int)).toNat) = v * 256 := by omega
  have h4 : ((((b.toNat : Nat) : Int) % ((2 ^ 64 : Nat) : Int)).toNat) = b.toNat := by omega
  rw [h3, h4]
  have h5 : v * 256 ||| b.toNat = v * 256 + b.toNat := by
    have := Nat.shiftLeft_add_eq_or_of_lt (i := 8) (b := b.toNat) hb v
    rw [Nat.shiftLeft_eq] at this
    exact this.symm
  rw [h5]
  simp [IntKind.wrap, IntKind.bits, IntKind.signed]
  omega

def ntS (s : List UInt8) (n j : Nat) : S2 := headS 34 ([.str s, .int .i64 (n : Int), .bad, .bad, .bad, .bad, .bad, .int .u64 (beN (s.take j) : Int), .bad, .bad, .bad, .bad, .bad, .bad, .bad, .bad, .bad, .bad, .int .i64 (n : Int), .int .i64 (j : Int)] ++ List.replicate 14 .bad) [] [] none

theorem str_get {s : List UInt8} {j : Nat} (h : j < s.length) : ∃ b, s[j]? = some b := ⟨_, List.getElem?_eq_getElem h⟩

theorem ntake_ct (G : Nat → Option (List V)) (hG : G 1 = some wV) (n : Nat) (hn : n = 1 ∨ n = 2 ∨ n = 4 ∨ n = 8) (s : List UInt8) (H : Heap) : Call2 Go.Proofs.Tryz.prog G 175 [.str s, .int .i64 (n : Int)] H fun r H' => H' = H ∧ r = ntV (ntake s n) := by
  refine Call2.free (fun x hx => by
    simp only [List.mem_cons, List.not_mem_nil, or_false] at hx
    rcases hx with rfl | rfl
    · exact .str _
    · exact .im _) ?_ H
  refine stCall2 Go.Proofs.Tryz.func175 rfl (by decide) ?_
  have hw := nwidth_ct G hG (n : Int)
  have hc : ([1, 2, 4, 8] : List Int).contains (n : Int) = true := by rcases hn with rfl | rfl | rfl | rfl <;> rfl
  rw [hc] at hw
  unfold ntake
  conv => whnf
  refine Call2.mono (hw _) fun r0 H0 h => ?_
  obtain ⟨h1, h2⟩ := h
  rw [h1, h2]
  clear h1 h2 r0 H0
  conv => whnf
  by_cases hlt : s.length < n
  · have hlt' : decide ((s.length : Int) < (n : Int)) = true := decide_eq_true (by omega)
    refine br_t hlt' ?_
    conv => whnf
    rw [if_pos hlt]
    exact ⟨ntV_free (0, [], 2), rfl⟩
  · have hlt' : decide ((s.length : Int) < (n : Int)) = false := decide_eq_false (by omega)
    refine br_f hlt' ?_
    conv => whnf
    intro hw
    refine wpc_loop2 (fun n1 s1 => ∃ j : Nat, j ≤ n ∧ n1 = n - j ∧ s1 = ntS s n j) n (ntS s n 0) ?_ ⟨0, by omega, rfl, rfl⟩ ?_ ?_
    · exact weak2 hw rfl ⟨.str _, .im _, .im _, .im _, .im _, trivial⟩ (.nil _) (fun id hid => by cases hid) rfl (fun id hid => by cases hid)
    · rintro n1 s1 ⟨j, _, _, rfl⟩
      exact ⟨⟨Nat.le_refl 34, fun x hx => by cases hx⟩, rfl, Nat.le_refl _, rfl⟩
    · rintro n1 s1 ⟨j, hj, rfl, rfl⟩
      by_cases hjn : j < n
      · obtain ⟨b, hb⟩ := str_get (s := s) (j := j) (by omega)
        have hwj : IntKind.i64.wrap ((j : Int) + 1) = ((j + 1 : Nat) : Int) := by rw [wrap_i64 (by omega) (by omega)]; rfl
        have hbe : beN (s.take j) < 256 ^ 7 := by
          have h1 := beN_lt j (s.take j) (by rw [List.length_take]; omega)
          have h2 : 256 ^ j ≤ 256 ^ 7 := Nat.pow_le_pow_right (by decide) (by omega)
          omega
        have hor := or8 (b := b) hbe
        rw [← beN_snoc, ← take_snoc hb] at hor
        have hget : s[Int.toNat (j : Int)]? = some b := hb
        have hd0 : decide (0 ≤ (j : Int)) = true := decide_eq_true (by omega)
        have hdl : decide ((j : Int) < (n : Int)) = true := decide_eq_true (by omega)
        conv => whnf
        refine br_t hdl ?_
        conv => whnf
        refine ⟨by decide, ?_⟩
        conv => whnf
        refine grd_intro hd0 (optK_intro hget ?_)
        conv => whnf
        intro hw3
        refine ⟨n - (j + 1), ntS s n (j + 1), by omega, ?_, j + 1, by omega, rfl, rfl⟩
        exact weak2 hw3 rfl ⟨.str _, .im _, .int hor, .im _, .int hwj, trivial⟩ (.nil _) (fun id hid => by cases hid) rfl (fun id hid => by cases hid)
      · have hdl : decide ((j : Int) < (n : Int)) = false := decide_eq_false (by omega)
        have hjn' : j = n := by omega
        conv => whnf
        refine br_f hdl ?_
        conv => whnf
        intro hw3
        refine wpc_draw2 7 (by rfl) (by decide) (by decide) hw3 ?_
        conv => whnf
        refine ⟨⟨by omega, by omega, by omega⟩, ?_⟩
        conv => whnf
        rw [if_neg hlt, hjn']
        have hsl : (List.take ((s.length : Nat) : Int).toNat s) = s := List.take_length
        rw [hsl]
        exact ⟨ntV_free (beN (s.take n), s.drop n, 0), rfl⟩

end Go.Abs.Sig

/-! LP2 -/
namespace Go.Abs.Sig
open Go.RowKit Go.Abs
set_option linter.unusedSimpArgs false
set_option linter.unusedVariables false
set_option maxRecDepth 8000
attribute [local irreducible] StCall StYield WPc Weak IterOf Lp2

/-- Two texts and an error. -/
def ssV (x : List UInt8 × List UInt8 × Int) : V := .tup [.str x.1, .str x.2.1, .int .i64 x.2.2]
theorem ssV_free (x : List UInt8 × List UInt8 × Int) : (ssV x).Free := .tup _ fun v hv => by
  simp only [List.mem_cons, List.not_mem_nil, or_false] at hv
  rcases hv with rfl | rfl | rfl
  · exact .str _
  · exact .str _
  · exact .im _
def skipF (s : List UInt8) (n : Nat) : List UInt8 × List UInt8 × Int := if s.length < n then ([], [], 2) else (s.take n, s.drop n, 0)

theorem u64_len {n : Nat} (h : n ≤ 1152921504606846976) : IntKind.u64.wrap (n : Int) = (n : Int) := by
  simp [IntKind.wrap, IntKind.bits, IntKind.signed]
  omega

theorem skip_ct (G : Nat → Option (List V)) (s : List UInt8) (hs : s.length ≤ maxStr) (n : Nat) (H : Heap) : Call2 Go.Proofs.Tryz.prog G 176 [.str s, .int .u64 (n : Int)] H fun r H' => H' = H ∧ r = ssV (skipF s n) := by
  refine Call2.free (fun x hx => by
    simp only [List.mem_cons, List.not_mem_nil, or_false] at hx
    rcases hx with rfl | rfl
    · exact .str _
    · exact .im _) ?_ H
  refine stCall2 Go.Proofs.Tryz.func176 rfl (by decide) ?_
  have hs' : s.length ≤ 1152921504606846976 := hs
  have hu := u64_len hs'
  unfold skipF
  conv => whnf
  rw [hu]
  by_cases hlt : s.length < n
  · have hlt' : decide ((s.length : Int) < (n : Int)) = true := decide_eq_true (by omega)
    refine br_t hlt' ?_
    conv => whnf
    rw [if_pos hlt]
    exact ⟨ssV_free ([], [], 2), rfl⟩
  · have hlt' : decide ((s.length : Int) < (n : Int)) = false := decide_eq_false (by omega)
    refine br_f hlt' ?_
    conv => whnf
    intro hw3
    refine wpc_draw2 9 (by rfl) (by decide) (by decide) hw3 ?_
    conv => whnf
    refine ⟨⟨by omega, by omega, by omega⟩, ?_⟩
    conv => whnf
    refine ⟨⟨by omega, by omega, by omega⟩, ?_⟩
    conv => whnf
    rw [if_neg hlt]
    have hsl : (List.take ((s.length : Nat) : Int).toNat s) = s := List.take_length
    rw [hsl]
    exact ⟨ssV_free (s.take n, s.drop n, 0), rfl⟩

/-- A text behind its length. -/
def ttake (n : Nat) (s : List UInt8) : List UInt8 × List UInt8 × Int := if (ntake s n).2.2 ≠ 0 then ([], [], (ntake s n).2.2) else skipF (ntake s n).2.1 (ntake s n).1

theorem ktake_ct (G : Nat → Option (List V)) (hG : G 1 = some wV) (n : Nat) (hn : n = 1 ∨ n = 2 ∨ n = 4 ∨ n = 8) (s : List UInt8) (hs : s.length ≤ maxStr) (H : Heap) : Call2 Go.Proofs.Tryz.prog G 188 [.int .i64 (n : Int), .str s] H fun r H' => H' = H ∧ r = ssV (ttake n s) := by
  refine Call2.free (fun x hx => by
    simp only [List.mem_cons, List.not_mem_nil, or_false] at hx
    rcases hx with rfl | rfl
    · exact .im _
    · exact .str _) ?_ H
  refine stCall2 Go.Proofs.Tryz.func188 rfl (by decide) ?_
  have hl : (ntake s n).2.1.length ≤ maxStr := by
    unfold ntake
    split
    · exact Nat.zero_le _
    · simp only [List.length_drop]; omega
  have h1 := ntake_ct G hG n hn s
  unfold ttake
  generalize ntake s n = x at h1 hl
  obtain ⟨v, rest, e⟩ := x
  unfold ntV at h1
  have h2 := skip_ct G rest hl v
  conv => whnf
  refine Call2.mono (h1 _) fun r0 H0 h => ?_
  obtain ⟨h1, h2⟩ := h
  rw [h1, h2]
  clear h1 h2 r0 H0
  conv => whnf
  by_cases he : e ≠ 0
  · refine br_t (decide_eq_true he) ?_
    conv => whnf
    rw [if_pos he]
    exact ⟨ssV_free ([], [], e), rfl⟩
  · refine br_f (decide_eq_false he) ?_
    rw [if_neg he]
    unfold ssV at h2
    conv => whnf
    refine Call2.mono (h2 _) fun r0 H0 h => ?_
    obtain ⟨h1, h2⟩ := h
    rw [h1, h2]
    clear h1 h2 r0 H0
    conv => whnf
    exact ⟨ssV_free (skipF rest v), rfl⟩

theorem tshort_ct (G : Nat → Option (List V)) (hG : G 1 = some wV) (s : List UInt8) (hs : s.length ≤ maxStr) (H : Heap) : Call2 Go.Proofs.Tryz.prog G 177 [.str s] H fun r H' => H' = H ∧ r = ssV (ttake 1 s) := by
  refine Call2.free (fun x hx => by
    simp only [List.mem_cons, List.not_mem_nil, or_false] at hx
    subst hx
    exact .str _) ?_ H
  refine stCall2 Go.Proofs.Tryz.func177 rfl (by decide) ?_
  have h2 := ktake_ct G hG 1 (by decide) s hs
  unfold ssV at h2
  conv => whnf
  refine Call2.mono (h2 _) fun r0 H0 h => ?_
  obtain ⟨h1, h2⟩ := h
  rw [h1, h2]
  clear h1 h2 r0 H0
  conv => whnf
  exact ⟨ssV_free _, rfl⟩
theorem tlong_ct (G : Nat → Option (List V)) (hG : G 1 = some wV) (s : List UInt8) (hs : s.length ≤ maxStr) (H : Heap) : Call2 Go.Proofs.Tryz.prog G 189 [.str s] H fun r H' => H' = H ∧ r = ssV (ttake 4 s) := by
  refine Call2.free (fun x hx => by
    simp only [List.mem_cons, List.not_mem_nil, or_false] at hx
    subst hx
    exact .str _) ?_ H
  refine stCall2 Go.Proofs.Tryz.func189 rfl (by decide) ?_
  have h2 := ktake_ct G hG 4 (by decide) s hs
  unfold ssV at h2
  conv => whnf
  refine Call2.mono (h2 _) fun r0 H0 h => ?_
  obtain ⟨h1, h2⟩ := h
  rw [h1, h2]
  clear h1 h2 r0 H0
  conv => whnf
  exact ⟨ssV_free _, rfl⟩

end Go.Abs.Sig

/-! LP3 -/
namespace Go.Abs.Sig
open Go.RowKit Go.Abs
set_option linter.unusedSimpArgs false
set_option linter.unusedVariables false
set_option maxRecDepth 8000
attribute [local irreducible] StCall StYield WPc Weak IterOf Lp2

/-- Lookups by a byte in a map of numbers. -/
def bmap (l : List (Nat × Nat)) : List (V × V) := l.map fun x => (.int .u8 (x.1 : Int), .int .u64 (x.2 : Int))
theorem find_lookup {K : Option (Nat × V) → Prop} {c : Nat} : ∀ (l : List (Nat × Nat)) (i : Nat), (∀ i, match l.lookup c with | some n => K (some (i, .int .u64 (n : Int))) | none => K none) → evFind2 (.int .u8 (c : Int)) K (bmap l) i
  | [], i, h => h i
  | (a, n) :: l, i, h => by
    show br (decide ((c : Int) = (a : Int))) _ _
    by_cases hc : c = a
    · subst hc
      refine br_t (by simp) ?_
      have := h i
      simp at this
      exact this
    · refine br_f (by simp; omega) ?_
      refine find_lookup l (i + 1) fun i => ?_
      have := h i
      rwa [List.lookup_cons, show (c == a) = false by simp [hc]] at this

def szL : List (Nat × Nat) := [(116, 1), (98, 1), (66, 1), (115, 2), (117, 2), (73, 4), (105, 4), (102, 4), (108, 8), (100, 8), (84, 8), (68, 5), (86, 0)]
def szs : List (V × V) := bmap szL
def tkH (d : Int) : Heap := [some (.map szs 13), some (.cells 220 [.mp 0, .int .i64 d])]

theorem sizes_ct (G : Nat → Option (List V)) : Call2 Go.Proofs.Tryz.prog G 156 [] [] fun r H' => r = .mp 0 ∧ H' = [some (.map szs 13)] := by
  refine stCall2 Go.Proofs.Tryz.func156 rfl (by decide) ?_
  conv => whnf
  exact ⟨rfl, rfl⟩

/-- A text and an error. -/
def seV (x : List UInt8 × Int) : V := .tup [.str x.1, .int .i64 x.2]

def itemsF (one : List UInt8 → List UInt8 × Int) : Nat → List UInt8 → Int
  | 0, _ => 0
  | n + 1, s => if s = [] then 0 else if (one s).2 = 2 then 3 else if (one s).2 ≠ 0 then (one s).2 else itemsF one n (one s).1
def withF (dep : Int) (one : List UInt8 → List UInt8 × Int) (s : List UInt8) : List UInt8 × Int :=
  if (ntake s 4).2.2 ≠ 0 then ([], (ntake s 4).2.2) else
  if (skipF (ntake s 4).2.1 (ntake s 4).1).2.2 ≠ 0 then ([], (skipF (ntake s 4).2.1 (ntake s 4).1).2.2) else
  if dep > 32 then ([], 5) else
  ((skipF (ntake s 4).2.1 (ntake s 4).1).2.1, itemsF one (skipF (ntake s 4).2.1 (ntake s 4).1).1.length (skipF (ntake s 4).2.1 (ntake s 4).1).1)

theorem skipF_len (s : List UInt8) (n : Nat) : (skipF s n).1.length ≤ s.length ∧ (skipF s n).2.1.length ≤ s.length ∧ ((skipF s n).2.2 = 0 → (skipF s n).1 ++ (skipF s n).2.1 = s) := by
  unfold skipF
  split
  · simp
  · simp only [List.length_take, List.length_drop, List.take_append_drop, implies_true, and_true]
    omega
theorem ntake_len (s : List UInt8) (n : Nat) : (ntake s n).2.1.length ≤ s.length ∧ ((ntake s n).2.2 = 0 → (ntake s n).2.1.length + n = s.length) := by
  unfold ntake
  split
  · simp
  · simp only [List.length_drop]
    omega

theorem szs_bw {n : Nat} : BW n (some (.map szs 13)) (some (.map szs 13)) := by
  refine .map _ _ _ ?_ ?_ <;> exact .cons (.im _) (.cons (.im _) (.cons (.im _) (.cons (.im _) (.cons (.im _) (.cons (.im _) (.cons (.im _) (.cons (.im _) (.cons (.im _) (.cons (.im _) (.cons (.im _) (.cons (.im _) (.cons (.im _) .nil))))))))))))
theorem tkH_bws (d : Int) : BWs 2 (tkH d) (tkH d) := .cons szs_bw (.cons (.cells _ _ _ (.cons (.mp 0 (by decide)) (.cons (.im _) .nil))) (.nil _))

theorem fn1_vw (f : Nat) : VW 2 (.fn (.func f) [.ptr 1 0] []) (.fn (.func f) [.ptr 1 0] []) := .fn _ _ _ (fun i v h => by
  match i with
  | 0 => cases h; exact .ptr 1 0 (by decide)
  | i + 1 => simp at h) fun i v h => by simp at h

def wiS (dep : Int) (f : Nat) (rest s : List UInt8) (d : Int) : S2 := headS 65 ([.ptr 1 0, .bad, .int .i64 dep, .fn (.func f) [.ptr 1 0] [], .bad, .bad, .bad, .bad, .bad, .bad, .bad, .str rest, .int .i64 0, .str s] ++ List.replicate 51 .bad) (tkH d) [] none

attribute [local irreducible] szs

theorem within_ct (G : Nat → Option (List V)) (hG : G 1 = some wV) (f : Nat) (hf : fnOk Go.Proofs.Tryz.prog f) (dep : Int) (one : List UInt8 → List UInt8 × Int)
    (hone : dep ≤ 32 → ∀ (s : List UInt8) (d : Int), s.length ≤ maxStr → Call2 Go.Proofs.Tryz.prog G f [.ptr 1 0, .str s, .int .i64 dep] (tkH d) fun r H' => ∃ d', H' = tkH d' ∧ r = seV (one s))
    (hsh : ∀ s, s ≠ [] → (one s).2 = 0 → (one s).1.length < s.length) (s : List UInt8) (hs : s.length ≤ maxStr) (d : Int) :
    Call2 Go.Proofs.Tryz.prog G 157 [.ptr 1 0, .str s, .int .i64 dep, .fn (.func f) [.ptr 1 0] []] (tkH d) fun r H' => ∃ d', H' = tkH d' ∧ r = seV (withF dep one s) := by
  refine stCall2 Go.Proofs.Tryz.func157 rfl (by decide) ?_
  have hn := ntake_ct G hG 4 (by decide) s
  have hnl := (ntake_len s 4).1
  unfold withF
  generalize ntake s 4 = x at hn hnl
  obtain ⟨v, rest, e⟩ := x
  unfold ntV at hn
  conv => whnf
  intro hws
  refine wpc_scope2 hws ?_
  conv => whnf
  refine Call2.mono (hn _) fun r0 H0 h => ?_
  obtain ⟨h1, h2⟩ := h
  rw [h1, h2]
  clear h1 h2 r0 H0
  conv => whnf
  by_cases he : e ≠ 0
  · refine br_t (decide_eq_true he) ?_
    conv => whnf
    rw [if_pos he]
    exact ⟨d, rfl, rfl⟩
  · refine br_f (decide_eq_false he) ?_
    rw [if_neg he]
    have hk := skip_ct G rest (Nat.le_trans hnl hs) v
    have hkl := skipF_len rest v
    simp only
    generalize skipF rest v = y at hk hkl
    obtain ⟨inn, left, e2⟩ := y
    unfold ssV at hk
    conv => whnf
    refine Call2.mono (hk _) fun r0 H0 h => ?_
    obtain ⟨h1, h2⟩ := h
    rw [h1, h2]
    clear h1 h2 r0 H0
    conv => whnf
    by_cases he2 : e2 ≠ 0
    · refine br_t (decide_eq_true he2) ?_
      conv => whnf
      rw [if_pos he2]
      exact ⟨d, rfl, rfl⟩
    · refine br_f (decide_eq_false he2) ?_
      rw [if_neg he2]
      have he20 : e2 = 0 := by simpa using he2
      by_cases hd : dep > 32
      · have hd' : decide (32 < dep) = true := decide_eq_true hd
        conv => whnf
        refine br_t hd' ?_
        conv => whnf
        rw [if_pos hd]
        exact ⟨d, rfl, rfl⟩
      · have hd' : decide (32 < dep) = false := decide_eq_false hd
        have hone := hone (by omega)
        rw [if_neg hd]
        conv => whnf
        refine br_f hd' ?_
        conv => whnf
        intro hw
        have hil : inn.length ≤ maxStr := Nat.le_trans hkl.1 (Nat.le_trans hnl hs)
        refine wpc_loop2 (fun n1 s1 => ∃ (q : Nat) (t : List UInt8) (d1 : Int), n1 = t.length ∧ t.length ≤ q ∧ t.length ≤ maxStr ∧ s1 = wiS dep f left t d1 ∧ itemsF one q t = itemsF one inn.length inn) inn.length (wiS dep f left inn (if dep > d then dep else d)) ?_ ⟨inn.length, inn, _, rfl, Nat.le_refl _, hil, rfl, rfl⟩ ?_ ?_
        · exact weak2 hw rfl ⟨.ptr 1 0 (show 1 < 2 by decide), .im _, fn1_vw f, .str _, .int he20, .str _, trivial⟩ (tkH_bws _) (fun id hid => by cases hid) rfl (fun id hid => by cases hid)
        · rintro n1 s1 ⟨q, t, d1, _, _, _, rfl, _⟩
          exact ⟨⟨Nat.le_refl 65, fun x hx => by cases hx⟩, rfl, Nat.le_refl _, rfl⟩
        · rintro n1 s1 ⟨q, t, d1, rfl, hq, htl, rfl, hinv⟩
          by_cases ht : t ≠ []
          · have hc := hone t d1 htl
            have hsh1 := hsh t ht
            have hq0 : q ≠ 0 := fun h => by
              subst h
              exact ht (List.eq_nil_of_length_eq_zero (by omega))
            obtain ⟨q, rfl⟩ := Nat.exists_eq_succ_of_ne_zero hq0
            rw [itemsF, if_neg ht] at hinv
            generalize one t = z at hc hsh1 hinv
            obtain ⟨l1, bad⟩ := z
            unfold seV at hc
            conv => whnf
            refine br_t (decide_eq_true ht) ?_
            conv => whnf
            refine Call2.mono hc fun r0 H0 h => ?_
            obtain ⟨d2, h1, h2⟩ := h
            rw [h1, h2]
            clear h1 h2 r0 H0
            conv => whnf
            by_cases hb2 : bad = 2
            · refine br_t (decide_eq_true hb2) ?_
              rw [if_pos hb2] at hinv
              conv => whnf
              exact ⟨d2, rfl, by rw [← hinv]; rfl⟩
            · refine br_f (decide_eq_false hb2) ?_
              rw [if_neg hb2] at hinv
              conv => whnf
              by_cases hb0 : bad ≠ 0
              · refine br_t (decide_eq_true hb0) ?_
                rw [if_pos hb0] at hinv
                conv => whnf
                exact ⟨d2, rfl, by rw [← hinv]; rfl⟩
              · refine br_f (decide_eq_false hb0) ?_
                rw [if_neg hb0] at hinv
                have hb00 : bad = 0 := by simpa using hb0
                have hll := hsh1 hb00
                simp only at hll hinv
                conv => whnf
                intro hw3
                refine ⟨l1.length, wiS dep f left l1 d2, hll, ?_, q, l1, d2, rfl, by omega, by omega, rfl, hinv⟩
                exact weak2 hw3 rfl ⟨.ptr 1 0 (show 1 < 2 by decide), .im _, fn1_vw f, .str _, .im _, .str _, trivial⟩ (tkH_bws _) (fun id hid => by cases hid) rfl (fun id hid => by cases hid)
          · have ht0 : t = [] := by simpa using ht
            subst ht0
            have hz : itemsF one q [] = 0 := by cases q <;> simp [itemsF]
            rw [hz] at hinv
            conv => whnf
            exact ⟨d1, rfl, by rw [← hinv]; rfl⟩

end Go.Abs.Sig

/-! LP4 -/
namespace Go.Abs.Sig
open Go.RowKit Go.Abs
set_option linter.unusedSimpArgs false
set_option linter.unusedVariables false
set_option maxRecDepth 8000
attribute [local irreducible] StCall StYield WPc Weak IterOf Lp2

theorem find_szs {K : Option (Nat × V) → Prop} {c : Nat} (i : Nat) (h : ∀ i, match szL.lookup c with | some n => K (some (i, .int .u64 (n : Int))) | none => K none) : evFind2 (.int .u8 (c : Int)) K szs i := find_lookup szL i h
attribute [local irreducible] szs szL

/-- What table.value answers, of what nested rows answer. -/
def valB (wA wF : List UInt8 → List UInt8 × Int) : List UInt8 → List UInt8 × Int
  | [] => ([], 2)
  | c :: t => match szL.lookup c.toNat with
    | some n => (skipF t n).2
    | none => if c = 83 ∨ c = 120 then (ttake 4 t).2 else if c = 65 then wA t else if c = 70 then wF t else ([], 3)
def fldF (val : List UInt8 → List UInt8 × Int) (s : List UInt8) : List UInt8 × Int := if (ttake 1 s).2.2 ≠ 0 then ([], (ttake 1 s).2.2) else val (ttake 1 s).2.1
def valF : Nat → List UInt8 → List UInt8 × Int
  | 0 => valB (withF 33 fun _ => ([], 0)) (withF 33 fun _ => ([], 0))
  | r + 1 => valB (withF (32 - (r : Int)) (valF r)) (withF (32 - (r : Int)) (fldF (valF r)))

theorem ttake_len (n : Nat) (s : List UInt8) : (ttake n s).2.1.length ≤ s.length ∧ ((ttake n s).2.2 = 0 → (ttake n s).2.1.length + n ≤ s.length) := by
  unfold ttake
  have h1 := ntake_len s n
  split
  · rename_i h
    exact ⟨Nat.zero_le _, fun h2 => absurd h2 h⟩
  · have h2 := skipF_len (ntake s n).2.1 (ntake s n).1
    rename_i h
    have h3 := h1.2 (by simpa using h)
    exact ⟨by omega, fun _ => by omega⟩

theorem withF_len (dep : Int) (one : List UInt8 → List UInt8 × Int) (s : List UInt8) : (withF dep one s).2 = 0 → (withF dep one s).1.length ≤ s.length := by
  unfold withF
  have h1 := ntake_len s 4
  have h2 := skipF_len (ntake s 4).2.1 (ntake s 4).1
  split
  · intro _; exact Nat.zero_le _
  · split
    · intro _; exact Nat.zero_le _
    · split
      · intro _; exact Nat.zero_le _
      · intro _; simp only; omega

theorem valB_len {wA wF : List UInt8 → List UInt8 × Int} (hA : ∀ s, (wA s).2 = 0 → (wA s).1.length ≤ s.length) (hF : ∀ s, (wF s).2 = 0 → (wF s).1.length ≤ s.length) (s : List UInt8) : (valB wA wF s).2 = 0 → (valB wA wF s).1.length < s.length := by
  cases s with
  | nil => intro h; cases h
  | cons c t =>
    unfold valB
    simp only [List.length_cons]
    split
    · intro _; have := (skipF_len t (by assumption)).2.1; omega
    · split
      · intro _; have := (ttake_len 4 t).1; omega
      · split
        · intro h; have := hA t h; omega
        · split
          · intro h; have := hF t h; omega
          · intro h; cases h

theorem fldF_len {val : List UInt8 → List UInt8 × Int} (hv : ∀ s, (val s).2 = 0 → (val s).1.length < s.length) (s : List UInt8) : (fldF val s).2 = 0 → (fldF val s).1.length < s.length := by
  unfold fldF
  split
  · rename_i h; exact fun h2 => absurd h2 h
  · intro h; have := hv _ h; have := (ttake_len 1 s).1; omega

theorem valF_len : ∀ (r : Nat) (s : List UInt8), (valF r s).2 = 0 → (valF r s).1.length < s.length
  | 0, s => valB_len (withF_len _ _) (withF_len _ _) s
  | r + 1, s => valB_len (withF_len _ _) (withF_len _ _) s

/-- The contract of table.value at a depth. -/
def ValOk (G : Nat → Option (List V)) (r : Nat) : Prop := ∀ (s : List UInt8) (d : Int), s.length ≤ maxStr → Call2 Go.Proofs.Tryz.prog G 178 [.ptr 1 0, .str s, .int .i64 (32 - (r : Int))] (tkH d) fun x H' => ∃ d', H' = tkH d' ∧ x = seV (valF r s)

theorem field_ct (G : Nat → Option (List V)) (hG : G 1 = some wV) (r : Nat) (hv : ValOk G r) (s : List UInt8) (d : Int) (hs : s.length ≤ maxStr) :
    Call2 Go.Proofs.Tryz.prog G 158 [.ptr 1 0, .str s, .int .i64 (32 - (r : Int))] (tkH d) fun x H' => ∃ d', H' = tkH d' ∧ x = seV (fldF (valF r) s) := by
  refine stCall2 Go.Proofs.Tryz.func158 rfl (by decide) ?_
  have h1 := tshort_ct G hG s hs
  have hl := (ttake_len 1 s).1
  unfold fldF
  generalize ttake 1 s = x at h1 hl
  obtain ⟨a, rest, e⟩ := x
  unfold ssV at h1
  conv => whnf
  refine Call2.mono (h1 _) fun r0 H0 h => ?_
  obtain ⟨h1, h2⟩ := h
  rw [h1, h2]
  clear h1 h2 r0 H0
  conv => whnf
  by_cases he : e ≠ 0
  · refine br_t (decide_eq_true he) ?_
    rw [if_pos he]
    conv => whnf
    exact ⟨d, rfl, rfl⟩
  · refine br_f (decide_eq_false he) ?_
    rw [if_neg he]
    have h2 := hv rest d (Nat.le_trans hl hs)
    simp only
    unfold seV at h2
    conv => whnf
    refine Call2.mono h2 fun r0 H0 h => ?_
    obtain ⟨d2, h3, h4⟩ := h
    rw [h3, h4]
    clear h3 h4 r0 H0
    conv => whnf
    exact ⟨d2, rfl, rfl⟩

theorem fn98 : fnOk Go.Proofs.Tryz.prog 178 := ⟨_, Go.Proofs.Tryz.func178, rfl, by decide⟩
theorem fn90 : fnOk Go.Proofs.Tryz.prog 158 := ⟨_, Go.Proofs.Tryz.func158, rfl, by decide⟩

theorem u8_ne {c : UInt8} {n : Nat} (h : n < 256) : c.toNat = n ↔ c = UInt8.ofNat n := by
  constructor
  · intro hc; rw [← hc]; simp
  · intro hc; subst hc; simp; omega

theorem value_core (G : Nat → Option (List V)) (hG : G 1 = some wV) (wA wF : List UInt8 → List UInt8 × Int) (dep dep1 : Int) (hdep : IntKind.i64.wrap (dep + 1) = dep1)
    (hA : ∀ (s : List UInt8) (d : Int), s.length ≤ maxStr → Call2 Go.Proofs.Tryz.prog G 157 [.ptr 1 0, .str s, .int .i64 dep1, .fn (.func 178) [.ptr 1 0] []] (tkH d) fun r H' => ∃ d', H' = tkH d' ∧ r = seV (wA s))
    (hF : ∀ (s : List UInt8) (d : Int), s.length ≤ maxStr → Call2 Go.Proofs.Tryz.prog G 157 [.ptr 1 0, .str s, .int .i64 dep1, .fn (.func 158) [.ptr 1 0] []] (tkH d) fun r H' => ∃ d', H' = tkH d' ∧ r = seV (wF s))
    (s : List UInt8) (d : Int) (hs : s.length ≤ maxStr) :
    Call2 Go.Proofs.Tryz.prog G 178 [.ptr 1 0, .str s, .int .i64 dep] (tkH d) fun x H' => ∃ d', H' = tkH d' ∧ x = seV (valB wA wF s) := by
  refine stCall2 Go.Proofs.Tryz.func178 rfl (by decide) ?_
  cases s with
  | nil =>
    conv => whnf
    exact ⟨d, rfl, rfl⟩
  | cons c t =>
    have hl' : t.length ≤ maxStr := by simp only [List.length_cons] at hs; omega
    have hdr : List.drop (1 : Int).toNat (List.take (((c :: t).length : Nat) : Int).toNat (c :: t)) = t := by rw [Int.toNat_natCast, List.take_length]; rfl
    conv => whnf
    intro hw
    refine wpc_draw2 12 (by rfl) (by decide) (by decide) hw ?_
    conv => whnf
    refine grd_intro rfl (find_szs 0 fun i => ?_)
    cases hlk : szL.lookup c.toNat with
    | some n =>
      simp only
      conv => whnf
      refine ⟨⟨by omega, by simp only [List.length_cons]; omega, by omega⟩, ?_⟩
      rw [hdr]
      have hk := skip_ct G t hl' n
      unfold ssV at hk
      conv => whnf
      refine Call2.mono (hk _) fun r0 H0 h => ?_
      obtain ⟨h1, h2⟩ := h
      rw [h1, h2]
      clear h1 h2 r0 H0
      conv => whnf
      exact ⟨d, rfl, by simp only [valB, hlk]; rfl⟩
    | none =>
      have hx : (if c = 83 ∨ c = 120 then (ttake 4 t).2 else if c = 65 then wA t else if c = 70 then wF t else ([], 3)) = valB wA wF (c :: t) := by unfold valB; simp only [hlk]
      simp only
      conv => whnf
      by_cases h83 : c.toNat = 83
      · refine br_t (decide_eq_true (by omega)) ?_
        have hc : c = 83 := (u8_ne (by decide)).1 h83
        rw [if_pos (.inl hc)] at hx
        conv => whnf
        refine ⟨⟨by omega, by simp only [List.length_cons]; omega, by omega⟩, ?_⟩
        rw [hdr]
        conv => whnf
        have hk := tlong_ct G hG t hl'
        generalize ttake 4 t = z at hk hx
        obtain ⟨z1, z2, z3⟩ := z
        unfold ssV at hk
        refine Call2.mono (hk _) fun r0 H0 h => ?_
        obtain ⟨h1, h2⟩ := h
        rw [h1, h2]
        clear h1 h2 r0 H0
        conv => whnf
        exact ⟨d, rfl, by rw [← hx]; rfl⟩
      · refine br_f (decide_eq_false (by omega)) ?_
        have hc83 : c ≠ 83 := fun h => h83 (by rw [h]; rfl)
        conv => whnf
        by_cases h120 : c.toNat = 120
        · have hc : c = 120 := (u8_ne (by decide)).1 h120
          rw [if_pos (.inr hc)] at hx
          refine br_t (decide_eq_true (by omega)) ?_
          conv => whnf
          refine ⟨⟨by omega, by simp only [List.length_cons]; omega, by omega⟩, ?_⟩
          rw [hdr]
          conv => whnf
          have hk := tlong_ct G hG t hl'
          generalize ttake 4 t = z at hk hx
          obtain ⟨z1, z2, z3⟩ := z
          unfold ssV at hk
          refine Call2.mono (hk _) fun r0 H0 h => ?_
          obtain ⟨h1, h2⟩ := h
          rw [h1, h2]
          clear h1 h2 r0 H0
          conv => whnf
          exact ⟨d, rfl, by rw [← hx]; rfl⟩
        · have hc120 : c ≠ 120 := fun h => h120 (by rw [h]; rfl)
          rw [if_neg (by simp [hc83, hc120])] at hx
          refine br_f (decide_eq_false (by omega)) ?_
          conv => whnf
          by_cases h65 : c.toNat = 65
          · have hc : c = 65 := (u8_ne (by decide)).1 h65
            rw [if_pos hc] at hx
            refine br_t (decide_eq_true (by omega)) ?_
            have hW := hA t d hl'
            rw [hx] at hW
            conv => whnf
            refine ⟨⟨by omega, by simp only [List.length_cons]; omega, by omega⟩, ?_⟩
            rw [hdr]
            conv => whnf
            rw [hdep]
            refine Call2.mono hW fun r0 H0 h => ?_
            obtain ⟨d2, h3, h4⟩ := h
            rw [h3, h4]
            clear h3 h4 r0 H0
            conv => whnf
            exact ⟨d2, rfl, rfl⟩
          · have hc65 : c ≠ 65 := fun h => h65 (by rw [h]; rfl)
            rw [if_neg hc65] at hx
            refine br_f (decide_eq_false (by omega)) ?_
            conv => whnf
            by_cases h70 : c.toNat = 70
            · have hc : c = 70 := (u8_ne (by decide)).1 h70
              rw [if_pos hc] at hx
              refine br_t (decide_eq_true (by omega)) ?_
              have hW := hF t d hl'
              rw [hx] at hW
              conv => whnf
              refine ⟨⟨by omega, by simp only [List.length_cons]; omega, by omega⟩, ?_⟩
              rw [hdr]
              conv => whnf
              rw [hdep]
              refine Call2.mono hW fun r0 H0 h => ?_
              obtain ⟨d2, h3, h4⟩ := h
              rw [h3, h4]
              clear h3 h4 r0 H0
              conv => whnf
              exact ⟨d2, rfl, rfl⟩
            · have hc70 : c ≠ 70 := fun h => h70 (by rw [h]; rfl)
              rw [if_neg hc70] at hx
              refine br_f (decide_eq_false (by omega)) ?_
              conv => whnf
              exact ⟨d, rfl, by rw [← hx]; rfl⟩

theorem value_ct (G : Nat → Option (List V)) (hG : G 1 = some wV) : ∀ r, r ≤ 31 → ValOk G r := by
  intro r
  induction r with
  | zero =>
    intro _ s d hs
    refine value_core G hG (withF 33 fun _ => ([], 0)) (withF 33 fun _ => ([], 0)) _ 33 rfl (fun s d hs => ?_) (fun s d hs => ?_) s d hs
    · exact within_ct G hG _ fn98 33 _ (fun h => by omega) (fun s hs _ => by cases s <;> simp at hs ⊢) s hs d
    · exact within_ct G hG _ fn90 33 _ (fun h => by omega) (fun s hs _ => by cases s <;> simp at hs ⊢) s hs d
  | succ r ih =>
    intro hr s d hs
    have ih := ih (by omega)
    refine value_core G hG (withF (32 - (r : Int)) (valF r)) (withF (32 - (r : Int)) (fldF (valF r))) _ (32 - (r : Int)) (by rw [wrap_i64 (by omega) (by omega)]; omega) (fun s d hs => ?_) (fun s d hs => ?_) s d hs
    · exact within_ct G hG _ fn98 _ _ (fun _ s d hs => ih s d hs) (fun s _ => valF_len r s) s hs d
    · exact within_ct G hG _ fn90 _ _ (fun _ s d hs => field_ct G hG r ih s d hs) (fun s _ => fldF_len (valF_len r) s) s hs d

/-- What a table's fields within the first level answer. -/
def tabF (s : List UInt8) : List UInt8 × Int := withF 1 (fldF (valF 31)) s
def takenF (s : List UInt8) (x : List UInt8 × Int) : List UInt8 × List UInt8 × Int := if x.2 ≠ 0 then ([], [], x.2) else (s.take (s.length - x.1.length), x.1, 0)
/-- What table.Take answers. -/
def tblF (s : List UInt8) : List UInt8 × List UInt8 × Int := takenF s (tabF s)

theorem taken_ct (G : Nat → Option (List V)) (s rest : List UInt8) (e : Int) (hs : s.length ≤ maxStr) (hr : e = 0 → rest.length ≤ s.length) (H : Heap) : Call2 Go.Proofs.Tryz.prog G 159 [.str s, .str rest, .int .i64 e] H fun r H' => H' = H ∧ r = ssV (takenF s (rest, e)) := by
  refine Call2.free (fun x hx => by
    simp only [List.mem_cons, List.not_mem_nil, or_false] at hx
    rcases hx with rfl | rfl | rfl
    · exact .str _
    · exact .str _
    · exact .im _) ?_ H
  refine stCall2 Go.Proofs.Tryz.func159 rfl (by decide) ?_
  have hs' : s.length ≤ 1152921504606846976 := hs
  unfold takenF
  conv => whnf
  by_cases he : e ≠ 0
  · refine br_t (decide_eq_true he) ?_
    conv => whnf
    rw [if_pos he]
    exact ⟨ssV_free ([], [], e), rfl⟩
  · refine br_f (decide_eq_false he) ?_
    rw [if_neg he]
    have hr := hr (by simpa using he)
    have hw : IntKind.i64.wrap ((s.length : Int) - (rest.length : Int)) = ((s.length - rest.length : Nat) : Int) := by rw [wrap_i64 (by omega) (by omega)]; omega
    conv => whnf
    rw [hw]
    refine ⟨⟨by omega, by omega, by omega⟩, ?_⟩
    conv => whnf
    exact ⟨ssV_free (s.take (s.length - rest.length), rest, 0), rfl⟩

theorem table_ct (G : Nat → Option (List V)) (hG : G 1 = some wV) (s : List UInt8) (hs : s.length ≤ maxStr) (H : Heap) : Call2 Go.Proofs.Tryz.prog G 138 [.str s] H fun r H' => H' = H ∧ r = ssV (tblF s) := by
  refine Call2.free (fun x hx => by
    simp only [List.mem_cons, List.not_mem_nil, or_false] at hx
    subst hx
    exact .str _) ?_ H
  refine stCall2 Go.Proofs.Tryz.func138 rfl (by decide) ?_
  have hwi := within_ct G hG _ fn90 1 (fldF (valF 31)) (fun _ s d hs => field_ct G hG 31 (value_ct G hG 31 (by omega)) s d hs) (fun s _ => fldF_len (valF_len 31) s) s hs 0
  have hl := withF_len 1 (fldF (valF 31)) s
  unfold tblF tabF
  generalize withF 1 (fldF (valF 31)) s = x at hwi hl
  obtain ⟨rest, e⟩ := x
  have ht := taken_ct G s rest e hs hl
  unfold seV at hwi
  unfold ssV at ht
  conv => whnf
  refine Call2.mono (sizes_ct G) fun r0 H0 h => ?_
  obtain ⟨h1, h2⟩ := h
  rw [h1, h2]
  clear h1 h2 r0 H0
  conv => whnf
  refine Call2.mono hwi fun r0 H0 h => ?_
  obtain ⟨d2, h1, h2⟩ := h
  rw [h1, h2]
  clear h1 h2 r0 H0
  conv => whnf
  refine Call2.mono (ht _) fun r0 H0 h => ?_
  obtain ⟨h1, h2⟩ := h
  rw [h1, h2]
  clear h1 h2 r0 H0
  conv => whnf
  exact ⟨ssV_free _, rfl⟩

end Go.Abs.Sig

/-! LP5 -/
namespace Go.Abs.Sig
open Go.RowKit Go.Abs
set_option linter.unusedSimpArgs false
set_option linter.unusedVariables false
set_option maxRecDepth 8000
attribute [local irreducible] StCall StYield WPc Weak IterOf Lp2

/-- Is a value a table? -/
def tbBad (s : List UInt8) : Bool := bsel (decide ((tblF s).2.2 ≠ 0)) true (bsel (decide ((tblF s).2.1 ≠ [])) true (decide ((tblF s).1 = [])))
def tbv (v : Val') : Int := if v.1 ≠ 0 then 1 else if tbBad v.2 then 3 else 0

theorem wtab_ct (G : Nat → Option (List V)) (hG : G 1 = some wV) (v : Val') (hs : v.2.length ≤ maxStr) (H : Heap) : Call2 Go.Proofs.Tryz.prog G 107 [.int .i64 (-1), .agg (vcells v)] H fun r H' => H' = H ∧ r = .int .i64 (tbv v) := by
  refine Call2.free (fun x hx => by
    simp only [List.mem_cons, List.not_mem_nil, or_false] at hx
    rcases hx with rfl | rfl
    · exact .im _
    · exact vcells_free v) ?_ H
  refine stCall2 Go.Proofs.Tryz.func107 rfl (by decide) ?_
  have ht := table_ct G hG v.2 hs
  unfold tbv tbBad
  generalize tblF v.2 = x at ht
  obtain ⟨a, rest, e⟩ := x
  unfold ssV at ht
  conv => whnf
  by_cases h0 : v.1 ≠ 0
  · refine br_t (decide_eq_true h0) ?_
    conv => whnf
    rw [if_pos h0]
    exact ⟨.im _, rfl⟩
  · refine br_f (decide_eq_false h0) ?_
    rw [if_neg h0]
    conv => whnf
    refine Call2.mono (ht _) fun r0 H0 h => ?_
    obtain ⟨h1, h2⟩ := h
    rw [h1, h2]
    clear h1 h2 r0 H0
    conv => whnf
    simp only
    by_cases he : e ≠ 0
    · have hd := decide_eq_true he
      refine br_t hd ?_
      rw [hd]
      conv => whnf
      exact ⟨.im _, rfl⟩
    · have hd := decide_eq_false he
      refine br_f hd ?_
      rw [hd]
      by_cases hr : rest ≠ []
      · have hdr := decide_eq_true hr
        rw [hdr]
        conv => whnf
        rw [hdr]
        conv => whnf
        exact ⟨.im _, rfl⟩
      · have hdr := decide_eq_false hr
        rw [hdr]
        conv => whnf
        rw [hdr]
        conv => whnf
        by_cases ha : a = []
        · have hda := decide_eq_true ha
          rw [hda]
          conv => whnf
          exact ⟨.im _, rfl⟩
        · have hda := decide_eq_false ha
          rw [hda]
          conv => whnf
          exact ⟨.im _, rfl⟩

theorem tbOk (G : Nat → Option (List V)) (hG : G 1 = some wV) : TbOk G tbv := by
  intro v q H hv h2 hq
  refine Call2.inScope ⟨_, Go.Proofs.Tryz.func111, rfl, by decide⟩ fun hs => ?_
  refine Call2.cut ?_
  refine stCall2 Go.Proofs.Tryz.func111 rfl (by decide) ?_
  conv => whnf
  rw [get_old h2]
  conv => whnf
  rw [get_old hq]
  conv => whnf
  try simp only [List.append_assoc, List.cons_append, List.nil_append, List.length_append, List.length_cons, List.length_nil, Nat.zero_add, Nat.add_assoc, Nat.reduceAdd, ga0, ga1, ga2, ga3, ga4, ga5, sa0, sa1, sa2, sa3, sa4, sa5, S2.setH_H, List.all_cons, List.all_nil, isDefd, nodupB, List.any_nil, Bool.and_true, Bool.not_false, List.foldl_cons, List.foldl_nil]
  conv => whnf
  refine Call2.mono (wtab_ct G hG v hv _) fun r0 H0 h => ?_
  obtain ⟨h1, h2⟩ := h
  rw [h1, h2]
  clear h1 h2 r0 H0
  conv => whnf
  exact ⟨_, Cut.app (X := [some (.cells 50 (vcells v))]) hs rfl, .im _, rfl, rfl⟩

end Go.Abs.Sig

/-! LN9 -/
namespace Go.Abs.Sig
open Go.RowKit Go.Abs
set_option linter.unusedSimpArgs false
set_option linter.unusedVariables false
set_option maxRecDepth 8000
attribute [local irreducible] StCall StYield WPc Weak IterOf Lp2

theorem vv (x : Val') : (decide (x.1 = x.1) && (decide (x.2 = x.2) && true)) = true := by simp
end Go.Abs.Sig

/-! LN10 -/
namespace Go.Abs.Sig
open Go.RowKit Go.Abs
set_option linter.unusedSimpArgs false
set_option linter.unusedVariables false
set_option maxRecDepth 8000
attribute [local irreducible] StCall StYield WPc Weak IterOf Lp2

theorem mrightT_ct (G : Nat → Option (List V)) (hG : G 1 = some wV) (m : Met) (hm : ∀ v ∈ m.2.2, v.2.length ≤ maxStr) (H : Heap) : Call2 Go.Proofs.Tryz.prog G 46 [.agg (mcells m)] H fun r H' => H' = H ∧ r = .int .i64 (mright tbv m) :=
  mright_ct G tbv m (fun _ => ⟨tbOk G hG, hm⟩) H

/-! ### the plain law -/
theorem mright_zero (tb : Val' → Int) (m : Met) : mright tb m = 0 ↔ isAt m.1 m.2.1 = true ∧ (rowAt m.1 m.2.1).2.2.1.length = m.2.2.length ∧ vright tb (rowAt m.1 m.2.1).2.2.1 m.2.2 = 0 := by
  unfold mright
  cases hi : isAt m.1 m.2.1
  · simp
  · cases hl : decide (((rowAt m.1 m.2.1).2.2.1.length : Int) ≠ (m.2.2.length : Int))
    · have hl' : (rowAt m.1 m.2.1).2.2.1.length = m.2.2.length := by
        have := of_decide_eq_false hl
        omega
      simp [hl']
    · have hl' : ¬ (rowAt m.1 m.2.1).2.2.1.length = m.2.2.length := by
        have := of_decide_eq_true hl
        omega
      simp [hl']

/-! ### the walk -/
end Go.Abs.Sig

/-! LR15 -/
namespace Go.Abs.Sig
open Go.RowKit Go.Abs
set_option linter.unusedSimpArgs false
set_option linter.unusedVariables false
set_option maxRecDepth 8000
attribute [local irreducible] StCall StYield WPc Weak IterOf Lp2

def eqS (l l' : List Val') (j : Nat) : S2 := headS 26 ([.dat 2 (vals l) .no, .dat 2 (vals l') .no, .bad, .bad, .bad, .bad, .bad, .bad, .bad, .bad, .bad, .bad, .int .i64 (l.length : Int), .int .i64 (j : Int)] ++ List.replicate 12 .bad) [] [] none
theorem eqvals_ct (G : Nat → Option (List V)) (l l' : List Val') (hla : l.length ≤ maxLen) (H : Heap) : Call2 Go.Proofs.Tryz.prog G 80 [.dat 2 (vals l) .no, .dat 2 (vals l') .no] H fun r H' => H' = H ∧ r = .bool (decide (l = l')) := by
  refine Call2.free (fun x hx => by
    simp only [List.mem_cons, List.not_mem_nil, or_false] at hx
    rcases hx with rfl | rfl
    · exact .dat _ _ _ (by simp)
    · exact .dat _ _ _ (by simp)) ?_ H
  have hvl : (vals l).length = l.length := by simp [vals]
  have hvl' : (vals l').length = l'.length := by simp [vals]
  have hla' : l.length ≤ 9223372036854775807 := hla
  refine stCall2 Go.Proofs.Tryz.func80 rfl (by decide) ?_
  conv => whnf
  rw [hvl, hvl']
  by_cases hlen : l.length = l'.length
  · refine br_f (decide_eq_false (by omega)) ?_
    conv => whnf
    rw [hvl]
    intro hw
    refine wpc_loop2 (fun n1 s1 => ∃ j : Nat, j ≤ l.length ∧ n1 = l.length - j ∧ s1 = eqS l l' j ∧ l.take j = l'.take j) l.length (eqS l l' 0) ?_ ⟨0, by omega, rfl, rfl, rfl⟩ ?_ ?_
    · exact weak2 hw rfl ⟨.dat _ _ _, .dat _ _ _, .im _, .im _, trivial⟩ (.nil _) (fun id hid => by cases hid) rfl (fun id hid => by cases hid)
    · rintro n1 s1 ⟨j, _, _, rfl, _⟩
      exact ⟨⟨Nat.le_refl 26, fun x hx => by cases hx⟩, rfl, Nat.le_refl _, rfl⟩
    · rintro n1 s1 ⟨j, hj, rfl, rfl, hinv⟩
      by_cases hjl : j < l.length
      · have hd0 : (true && true && decide ((0 : Int) ≤ (j : Int))) = true := by simp
        have hg1 : (vals l)[Int.toNat (j : Int)]? = some (vcells l[j]) := vals_get (List.getElem?_eq_getElem hjl)
        have hg2 : (vals l')[Int.toNat (j : Int)]? = some (vcells (l'[j]'(by omega))) := vals_get (List.getElem?_eq_getElem (by omega))
        have hwj : IntKind.i64.wrap ((j : Int) + 1) = ((j + 1 : Nat) : Int) := by rw [wrap_i64 (by omega) (by omega)]; rfl
        have ht1 : l.take (j + 1) = l.take j ++ [l[j]] := by rw [List.take_succ_eq_append_getElem hjl]
        have ht2 : l'.take (j + 1) = l'.take j ++ [l'[j]'(by omega)] := by rw [List.take_succ_eq_append_getElem (by omega)]
        conv => whnf
        refine br_t (decide_eq_true (by omega)) ?_
        conv => whnf
        intro hw2
        refine wpc_draw2 9 (by rfl) (by decide) (by decide) hw2 ?_
        conv => whnf
        refine grd_intro hd0 (optK_intro hg1 ?_)
        conv => whnf
        refine grd_intro hd0 (optK_intro hg2 ?_)
        conv => whnf
        refine EqT.neq eqT32 flat32 (eq32 _ _) ?_
        conv => whnf
        refine br_intro (fun hne => ?_) (fun heq => ?_)
        · have hne' : (!(decide (l[j] = l'[j]'(by omega)))) = true := hne
          have hdiff : decide (l = l') = false := by
            simp only [decide_eq_false_iff_not]
            intro h
            subst h
            simp at hne'
          conv => whnf
          refine ⟨.im _, ?_⟩
          rw [hdiff]
          rfl
        · have heq' : (!(decide (l[j] = l'[j]'(by omega)))) = false := heq
          have hsame : l[j] = l'[j]'(by omega) := by simpa using heq'
          conv => whnf
          intro hw3
          refine ⟨l.length - (j + 1), eqS l l' (j + 1), by omega, ?_, j + 1, by omega, rfl, rfl, ?_⟩
          · exact weak2 hw3 rfl ⟨.dat _ _ _, .dat _ _ _, .im _, .int hwj, trivial⟩ (.nil _) (fun id hid => by cases hid) rfl (fun id hid => by cases hid)
          · rw [ht1, ht2, hinv, hsame]
      · have hje : j = l.length := by omega
        have hsame : decide (l = l') = true := by
          rw [hje, List.take_length, hlen, List.take_length] at hinv
          simp [hinv]
        conv => whnf
        refine br_f (decide_eq_false (by omega)) ?_
        conv => whnf
        refine ⟨.im _, ?_⟩
        rw [hsame]
        rfl
  · refine br_t (decide_eq_true (by omega)) ?_
    conv => whnf
    refine ⟨.im _, ?_⟩
    rw [decide_eq_false (fun h => hlen (by rw [h]))]
    rfl
end Go.Abs.Sig

/-! LM8 -/
namespace Go.Abs.Sig
open Go.RowKit Go.Abs
set_option linter.unusedSimpArgs false
set_option linter.unusedVariables false
set_option maxRecDepth 8000
attribute [local irreducible] StCall StYield WPc Weak IterOf Lp2

theorem wrap_u64 {n : Int} (h0 : 0 ≤ n) (h1 : n < 18446744073709551616) : IntKind.u64.wrap n = n := by
  simp only [IntKind.wrap, IntKind.bits, IntKind.signed]
  simp
  omega

end Go.Abs.Sig
