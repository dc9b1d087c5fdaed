/- The walks of some functions: what they compute. -/
import Derived.Test.YteklnflddoekfaaDoorM4
import Derived.Test.YteklnflddoekfaaDoorRSig7
namespace Go.Abs.Sig
open Go.RowKit Go.Abs
set_option linter.unusedSimpArgs false
set_option linter.unusedVariables false
set_option maxRecDepth 8000
attribute [local irreducible] StCall StYield WPc Weak IterOf Call2

def rl (tb : Val' → Int) (c : UInt8) (v : Val') : Int :=
  if c = 111 then wr 1 v else if c = 115 then wr 2 v else if c = 108 then wr 4 v else if c = 113 then wr 8 v else if c = 98 then wr 0 v else if c = 83 then wt 255 v else if c = 76 then wt 131072 v else tb v
def vright (tb : Val' → Int) : List UInt8 → List Val' → Int
  | c :: s, v :: l => if rl tb c v ≠ 0 then rl tb c v else vright tb s l
  | _, _ => 0
def mright (tb : Val' → Int) (m : Met) : Int := if !isAt m.1 m.2.1 || decide (((rowAt m.1 m.2.1).2.2.1.length : Int) ≠ (m.2.2.length : Int)) then 7 else vright tb (rowAt m.1 m.2.1).2.2.1 m.2.2

/-- What is asked of a table's letter. -/
def TbOk (G : Nat → Option (List V)) (tb : Val' → Int) : Prop := ∀ (v : Val') (q : Nat) (H : Heap), H[2]? = some (some (.cells 110 [.fn (.func 63) [] []])) → H[q]? = some (cT (-1)) →
    Call2 Go.Proofs.Tryd.prog G 66 [.agg (vcells v), .ptr 2 0, .ptr q 0] H fun r H' => H' = H ∧ r = .int .i64 (tb v)

theorem bws_app {n : Nat} {H H' : Heap} (h : BWs n H H') (X : Heap) : BWs n (H ++ X) H' := by
  induction h with
  | nil H => exact .nil _
  | cons h _ ih => exact .cons h ih

def mrS (s : List UInt8) (l : List Val') (j : Nat) (H : Heap) : S2 := headS 47 ([.bad, .ptr 0 0, .bad, .str s, .bad, .mp 3, .im (.int .i64 0)] ++ List.replicate 22 .bad ++ [.dat 2 (vals l) .no, .int .i64 (l.length : Int), .int .i64 (j : Int)] ++ List.replicate 15 .bad) H [] none

theorem vals_get {l : List Val'} {j : Nat} {v : Val'} (h : l[j]? = some v) : (vals l)[Int.toNat (j : Int)]? = some (vcells v) := by
  show (vals l)[j]? = _
  unfold vals
  rw [List.getElem?_map, h]; rfl

theorem mcells_free' (m : Met) : ∀ x ∈ mcells m, x.Free := fun v hv => by
  simp only [mcells, List.mem_cons, List.not_mem_nil, or_false] at hv
  rcases hv with rfl | rfl | rfl
  · exact .im _
  · exact .im _
  · exact .dat _ _ _ (by simp)
theorem mright_ct (G : Nat → Option (List V)) (tb : Val' → Int) (m : Met) (htb : 84 ∈ (rowAt m.1 m.2.1).2.2.1 → TbOk G tb) (H : Heap) : Call2 Go.Proofs.Tryd.prog G 23 [.agg (mcells m)] H fun r H' => H' = H ∧ r = .int .i64 (mright tb m) := by
  refine Call2.free (fun x hx => by
    simp only [List.mem_cons, List.not_mem_nil, or_false] at hx
    subst hx
    exact mcells_free m) ?_ H
  obtain ⟨c, i, l⟩ := m
  refine stCall2 Go.Proofs.Tryd.func23 rfl (by decide) ?_
  unfold mright
  conv => whnf
  intro hws
  refine wpc_scope2 hws ?_
  conv => whnf
  refine Call2.mono (of_ct G c i _) fun r0 H0 h => ?_
  obtain ⟨h1, h2⟩ := h
  rw [h1, h2]
  clear h1 h2 r0 H0
  conv => whnf
  have hsh := tab_short c i
  generalize hs : (rowAt c i).2.2.1 = s at htb hsh
  cases hi : isAt c i
  · conv => whnf
    exact ⟨.im _, rfl⟩
  · conv => whnf
    refine br_intro (fun h1 => ?_) (fun h1 => ?_)
    · have h1' : decide ((s.length : Int) ≠ ((vals l).length : Int)) = true := h1
      have h1'' : decide ((s.length : Int) ≠ (l.length : Int)) = true := by rw [← h1']; simp [vals]
      conv => whnf
      refine ⟨.im _, ?_⟩
      show V.int .i64 7 = V.int .i64 (if !true || decide ((s.length : Int) ≠ (l.length : Int)) then 7 else vright tb s l)
      rw [h1'']
      rfl
    · have h1' : decide ((s.length : Int) ≠ ((vals l).length : Int)) = false := h1
      have hlen : s.length = l.length := by simp [vals] at h1'; omega
      have hres : (if !true || decide ((s.length : Int) ≠ (l.length : Int)) then (7 : Int) else vright tb s l) = vright tb s l := by rw [hlen]; simp
      conv => whnf
      refine Call2.mono (rights_ct G (some (.cells 26 (mcells (c, i, l)))) (fun n => .free (mcells_free' (c, i, l)))) fun r0 H0 h => ?_
      obtain ⟨h1, es, c0, X, h2, hrm, hsc⟩ := h
      have hg1 : H0[1]? = some (some (.cells 109 [.fn (.func 62) [] []])) := by rw [h2]; rfl
      have hg2 : H0[2]? = some (some (.cells 110 [.fn (.func 63) [] []])) := by rw [h2]; rfl
      have hg3 : H0[3]? = some (some (.map es c0)) := by rw [h2]; rfl
      have hg0 : H0[0]? = some (some (.cells 26 (mcells (c, i, l)))) := by rw [h2]; rfl
      have hl4 : 4 ≤ H0.length := by rw [h2]; simp only [List.length_cons]; omega
      rw [h1]
      clear h1
      conv => whnf
      rw [show H0[([] : Heap).length]? = _ from hg0]
      conv => whnf
      intro hw
      refine wpc_loop2 (fun n1 s1 => ∃ j : Nat, j ≤ l.length ∧ n1 = l.length - j ∧ s1 = mrS s l j H0 ∧ vright tb (s.drop j) (l.drop j) = vright tb s l) l.length (mrS s l 0 H0) ?_ ⟨0, by omega, rfl, rfl, rfl⟩ ?_ ?_
      · exact weak2 hw rfl ⟨.ptr 0 0 (by show 0 < H0.length; omega), .str _, .mp 3 (by show 3 < H0.length; omega), .im _, .dat _ _ _, .int (by simp [vals]), .im _, trivial⟩ hsc.bws (fun id hid => by cases hid) rfl (fun id hid => by cases hid)
      · rintro n1 s1 ⟨j, _, _, rfl, _⟩
        exact ⟨⟨Nat.le_refl 47, fun x hx => by cases hx⟩, rfl, Nat.le_refl _, rfl⟩
      · rintro n1 s1 ⟨j, hj, rfl, rfl, hinv⟩
        conv => whnf
        refine br_intro (fun hlt => ?_) (fun hge => ?_)
        · have hlt' : decide ((j : Int) < (l.length : Int)) = true := hlt
          rw [decide_eq_true_eq] at hlt'
          have hjl : j < l.length := by omega
          obtain ⟨v, hv⟩ : ∃ v, l[j]? = some v := ⟨l[j], List.getElem?_eq_getElem hjl⟩
          obtain ⟨b, hb⟩ : ∃ b, s[j]? = some b := ⟨_, List.getElem?_eq_getElem (by rw [hlen]; exact hjl)⟩
          have hget := vals_get hv
          have hgetb : s[Int.toNat (j : Int)]? = some b := hb
          have hd0 : decide (0 ≤ (j : Int)) = true := decide_eq_true (by omega)
          have hg : (true && true && decide ((0 : Int) ≤ (j : Int))) = true := by simp
          have hwj : IntKind.i64.wrap ((j : Int) + 1) = ((j + 1 : Nat) : Int) := by rw [wrap_i64 (by omega) (by omega)]; rfl
          have hds : s.drop j = b :: s.drop (j + 1) := by rw [List.drop_eq_getElem_cons (by rw [hlen]; exact hjl), (List.getElem?_eq_some_iff.1 hb).2]
          have hdl : l.drop j = v :: l.drop (j + 1) := by rw [List.drop_eq_getElem_cons hjl, (List.getElem?_eq_some_iff.1 hv).2]
          have hvr : vright tb (s.drop j) (l.drop j) = if rl tb b v ≠ 0 then rl tb b v else vright tb (s.drop (j + 1)) (l.drop (j + 1)) := by rw [hds, hdl]; rfl
          have hlet : b = 111 ∨ b = 115 ∨ b = 108 ∨ b = 113 ∨ b = 98 ∨ b = 83 ∨ b = 76 ∨ b = 84 := letters_at (c := c) (i := i) (by rw [hs]; exact List.mem_of_getElem? hb)
          have hbm : b ∈ s := List.mem_of_getElem? hb
          obtain ⟨i', q, f, p, hi', hcall⟩ : ∃ (i' q f p : Nat), es[i']? = some (V.int .u8 (b.toNat : Int), .fn (.func f) [] [.ptr p 0, .ptr q 0]) ∧
              ∀ Y, Call2 Go.Proofs.Tryd.prog G f ([.agg (vcells v)] ++ [.ptr p 0, .ptr q 0]) (H0 ++ Y) fun r H' => H' = H0 ++ Y ∧ r = .int .i64 (rl tb b v) := by
            rcases hlet with rfl | rfl | rfl | rfl | rfl | rfl | rfl | rfl
            · obtain ⟨i', q, g1, g2⟩ := hrm.w 111 1 (by simp [isW])
              exact ⟨i', q, 64, 1, g1, fun Y => fW_ct G 111 1 (by simp [isW]) v q _ (get_old hg1) (get_old g2)⟩
            · obtain ⟨i', q, g1, g2⟩ := hrm.w 115 2 (by simp [isW])
              exact ⟨i', q, 64, 1, g1, fun Y => fW_ct G 115 2 (by simp [isW]) v q _ (get_old hg1) (get_old g2)⟩
            · obtain ⟨i', q, g1, g2⟩ := hrm.w 108 4 (by simp [isW])
              exact ⟨i', q, 64, 1, g1, fun Y => fW_ct G 108 4 (by simp [isW]) v q _ (get_old hg1) (get_old g2)⟩
            · obtain ⟨i', q, g1, g2⟩ := hrm.w 113 8 (by simp [isW])
              exact ⟨i', q, 64, 1, g1, fun Y => fW_ct G 113 8 (by simp [isW]) v q _ (get_old hg1) (get_old g2)⟩
            · obtain ⟨i', q, g1, g2⟩ := hrm.w 98 0 (by simp [isW])
              exact ⟨i', q, 64, 1, g1, fun Y => fW_ct G 98 0 (by simp [isW]) v q _ (get_old hg1) (get_old g2)⟩
            · obtain ⟨i', q, g1, g2⟩ := hrm.t 83 255 (by simp [isT])
              exact ⟨i', q, 66, 2, g1, fun Y => fT_ct G 255 (by simp) v q _ (get_old hg2) (get_old g2)⟩
            · obtain ⟨i', q, g1, g2⟩ := hrm.t 76 131072 (by simp [isT])
              exact ⟨i', q, 66, 2, g1, fun Y => fT_ct G 131072 (by simp) v q _ (get_old hg2) (get_old g2)⟩
            · obtain ⟨i', q, g1, g2⟩ := hrm.t 84 (-1) (by simp [isT])
              exact ⟨i', q, 66, 2, g1, fun Y => htb hbm v q _ (get_old hg2) (get_old g2)⟩
          obtain ⟨bs, hbs, hnd⟩ := hrm.keys
          have hne0 : decide (rl tb b v ≠ 0) = true → rl tb b v = vright tb s l := fun h => by
            rw [← hinv, hvr, if_pos (by simpa using h)]
          have heq0 : decide (rl tb b v ≠ 0) = false → rl tb b v = 0 ∧ vright tb (s.drop (j + 1)) (l.drop (j + 1)) = vright tb s l := fun h => by
            have h0 : rl tb b v = 0 := by simpa using h
            exact ⟨h0, by rw [← hinv, hvr, if_neg (by simp [h0])]⟩
          conv => whnf
          refine grd_intro hg (optK_intro hget ?_)
          conv => whnf
          try simp only [List.append_assoc, List.cons_append, List.nil_append, List.length_append, List.length_cons, List.length_nil, Nat.zero_add, Nat.add_assoc, Nat.reduceAdd, ga0, ga1, ga2, ga3, ga4, ga5, sa0, sa1, sa2, sa3, sa4, sa5, S2.setH_H, List.all_cons, List.all_nil, isDefd, nodupB, List.any_nil, Bool.and_true, Bool.not_false, List.foldl_cons, List.foldl_nil]
          conv => whnf
          intro hw2
          refine wpc_draw2 6 (by rfl) (by decide) (by decide) hw2 ?_
          conv => whnf
          refine grd_intro hd0 (optK_intro hgetb ?_)
          conv => whnf
          rw [get_old hg3]
          conv => whnf
          refine grd_intro rfl (evFind2_hit es bs i' 0 hbs hnd hi' ?_)
          conv => whnf
          try simp only [List.append_assoc, List.cons_append, List.nil_append, List.length_append, List.length_cons, List.length_nil, Nat.zero_add, Nat.add_assoc, Nat.reduceAdd, ga0, ga1, ga2, ga3, ga4, ga5, sa0, sa1, sa2, sa3, sa4, sa5, S2.setH_H, List.all_cons, List.all_nil, isDefd, nodupB, List.any_nil, Bool.and_true, Bool.not_false, List.foldl_cons, List.foldl_nil]
          conv => whnf
          refine Call2.mono (hcall _) fun r1 H1 h => ?_
          obtain ⟨e1, e2⟩ := h
          rw [e1, e2]
          clear e1 e2
          conv => whnf
          refine br_intro (fun hr => ?_) (fun hr => ?_)
          · have hr' := hne0 hr
            conv => whnf
            refine ⟨.im _, ?_⟩
            show V.int .i64 (rl tb b v) = V.int .i64 (if !true || decide ((s.length : Int) ≠ (l.length : Int)) then 7 else vright tb s l)
            rw [hres, hr']
          · obtain ⟨h0, hnext⟩ := heq0 hr
            conv => whnf
            intro hw3
            refine ⟨l.length - (j + 1), mrS s l (j + 1) H0, by omega, ?_, j + 1, by omega, rfl, rfl, hnext⟩
            exact weak2 hw3 rfl ⟨.ptr 0 0 (by show 0 < H0.length; omega), .str _, .mp 3 (by show 3 < H0.length; omega), .int h0, .dat _ _ _, .im _, .int hwj, trivial⟩ (bws_app hsc.bws _) (fun id hid => by cases hid) rfl (fun id hid => by cases hid)
        · rw [decide_eq_false_iff_not] at hge
          obtain rfl : j = l.length := by omega
          have h0 : vright tb s l = 0 := by
            rw [← hinv, List.drop_length, ← hlen, List.drop_length]; rfl
          conv => whnf
          refine ⟨.im _, ?_⟩
          show V.int .i64 0 = V.int .i64 (if !true || decide ((s.length : Int) ≠ (l.length : Int)) then 7 else vright tb s l)
          rw [hres, h0]
end Go.Abs.Sig
