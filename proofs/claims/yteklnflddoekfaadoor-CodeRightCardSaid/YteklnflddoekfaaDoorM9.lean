/- The walks of some functions: what they compute. -/
import Derived.Test.YteklnflddoekfaaDoorM8
namespace Go.Abs.Sig
open Go.RowKit Go.Abs
set_option linter.unusedSimpArgs false
set_option linter.unusedVariables false
set_option maxRecDepth 8000
attribute [local irreducible] StCall StYield WPc Weak IterOf Call2 Lp2

def rrS (s : List UInt8) (m : Met) (j : Nat) : S2 := headS 43 ([.bad, .ptr 0 0, .bad, .str s, .bad, .int .i64 (j : Int)] ++ List.replicate 37 .bad) [some (.cells 26 (mcells m))] [] none

theorem rright_ct (G : Nat → Option (List V)) (tb : Val' → Int) (m : Met) (hT : ¬ 84 ∈ (rowAt m.1 m.2.1).2.2.1) (hrng : ∀ v ∈ m.2.2, Rng v) (H : Heap) : Call2 Go.Proofs.Tryd.prog G 20 [.agg (mcells m)] H fun r H' => H' = H ∧ r = .int .i64 (mright tb m) := by
  refine Call2.free (fun x hx => by
    simp only [List.mem_cons, List.not_mem_nil, or_false] at hx
    subst hx
    exact mcells_free m) ?_ H
  obtain ⟨c, i, l⟩ := m
  refine stCall2 Go.Proofs.Tryd.func20 rfl (by decide) ?_
  unfold mright
  conv => whnf
  refine Call2.mono (rof_ct G c i _) fun r0 H0 h => ?_
  obtain ⟨h1, h2⟩ := h
  rw [h1, h2]
  clear h1 h2 r0 H0
  conv => whnf
  rw [rof_eq]
  have hsh := tab_short c i
  generalize hs : (rowAt c i).2.2.1 = s at hT hsh
  cases hi : isAt c i
  · conv => whnf
    exact ⟨.im _, rfl⟩
  · conv => whnf
    refine br_intro (fun h1 => ?_) (fun h1 => ?_)
    · have h1' : decide ((s.length : Int) ≠ ((vals l).length : Int)) = true := h1
      have h1'' : decide ((s.length : Int) ≠ (l.length : Int)) = true := by rw [← h1']; simp [vals]
      conv => whnf
      refine ⟨.im _, ?_⟩
      show V.int .i64 7 = V.int .i64 (if !true || decide ((s.length : Int) ≠ (l.length : Int)) then 7 else vright tb s l)
      rw [h1'']
      rfl
    · have h1' : decide ((s.length : Int) ≠ ((vals l).length : Int)) = false := h1
      have hlen : s.length = l.length := by simp [vals] at h1'; omega
      have hres : (if !true || decide ((s.length : Int) ≠ (l.length : Int)) then (7 : Int) else vright tb s l) = vright tb s l := by rw [hlen]; simp
      conv => whnf
      intro hw
      refine wpc_loop2 (fun n1 s1 => ∃ j : Nat, j ≤ l.length ∧ n1 = l.length - j ∧ s1 = rrS s (c, i, l) j ∧ vright tb (s.drop j) (l.drop j) = vright tb s l) l.length (rrS s (c, i, l) 0) ?_ ⟨0, by omega, rfl, rfl, rfl⟩ ?_ ?_
      · exact weak2 hw rfl ⟨.ptr 0 0 (of_decide_eq_true rfl), .str _, .im _, trivial⟩ (.cons (.free (mcells_free' (c, i, l))) (.nil _)) (fun id hid => by cases hid) rfl (fun id hid => by cases hid)
      · rintro n1 s1 ⟨j, _, _, rfl, _⟩
        exact ⟨⟨Nat.le_refl 43, fun x hx => by cases hx⟩, rfl, Nat.le_refl _, rfl⟩
      · rintro n1 s1 ⟨j, hj, rfl, rfl, hinv⟩
        conv => whnf
        refine br_intro (fun hlt => ?_) (fun hge => ?_)
        · have hlt' : decide ((j : Int) < (s.length : Int)) = true := hlt
          rw [decide_eq_true_eq] at hlt'
          have hjl : j < l.length := by omega
          obtain ⟨v, hv⟩ : ∃ v, l[j]? = some v := ⟨l[j], List.getElem?_eq_getElem hjl⟩
          obtain ⟨b, hb⟩ : ∃ b, s[j]? = some b := ⟨_, List.getElem?_eq_getElem (by rw [hlen]; exact hjl)⟩
          have hget := vals_get hv
          have hgetb : s[Int.toNat (j : Int)]? = some b := hb
          have hd0 : decide (0 ≤ (j : Int)) = true := decide_eq_true (by omega)
          have hg : (true && true && decide ((0 : Int) ≤ (j : Int))) = true := by simp
          have hwj : IntKind.i64.wrap ((j : Int) + 1) = ((j + 1 : Nat) : Int) := by rw [wrap_i64 (by omega) (by omega)]; rfl
          have hds : s.drop j = b :: s.drop (j + 1) := by rw [List.drop_eq_getElem_cons (by rw [hlen]; exact hjl), (List.getElem?_eq_some_iff.1 hb).2]
          have hdl : l.drop j = v :: l.drop (j + 1) := by rw [List.drop_eq_getElem_cons hjl, (List.getElem?_eq_some_iff.1 hv).2]
          have hvr : vright tb (s.drop j) (l.drop j) = if rl tb b v ≠ 0 then rl tb b v else vright tb (s.drop (j + 1)) (l.drop (j + 1)) := by rw [hds, hdl]; rfl
          have hbm : b ∈ s := List.mem_of_getElem? hb
          have hlet : b = 111 ∨ b = 115 ∨ b = 108 ∨ b = 113 ∨ b = 98 ∨ b = 83 ∨ b = 76 := by
            have := letters_at (c := c) (i := i) (b := b) (by rw [hs]; exact hbm)
            rcases this with h | h | h | h | h | h | h | h
            · exact .inl h
            · exact .inr (.inl h)
            · exact .inr (.inr (.inl h))
            · exact .inr (.inr (.inr (.inl h)))
            · exact .inr (.inr (.inr (.inr (.inl h))))
            · exact .inr (.inr (.inr (.inr (.inr (.inl h)))))
            · exact .inr (.inr (.inr (.inr (.inr (.inr h)))))
            · exact absurd (h ▸ hbm) hT
          have hvR : Rng v := hrng v (List.mem_of_getElem? hv)
          have hne0 : decide (rl tb b v ≠ 0) = true → rl tb b v = vright tb s l := fun h => by
            rw [← hinv, hvr, if_pos (by simpa using h)]
          have heq0 : decide (rl tb b v ≠ 0) = false → vright tb (s.drop (j + 1)) (l.drop (j + 1)) = vright tb s l := fun h => by
            have h0 : rl tb b v = 0 := by simpa using h
            rw [← hinv, hvr, if_neg (by simp [h0])]
          conv => whnf
          intro hw2
          refine wpc_draw2 8 (by rfl) (by decide) (by decide) hw2 ?_
          conv => whnf
          refine grd_intro hd0 (optK_intro hgetb ?_)
          conv => whnf
          refine grd_intro hg (optK_intro hget ?_)
          conv => whnf
          refine Call2.mono (rval_ct G tb b hlet v hvR _) fun r1 H1 h => ?_
          obtain ⟨e1, e2⟩ := h
          rw [e1, e2]
          clear e1 e2
          conv => whnf
          refine br_intro (fun hr => ?_) (fun hr => ?_)
          · have hr' := hne0 hr
            conv => whnf
            refine ⟨.im _, ?_⟩
            show V.int .i64 (rl tb b v) = V.int .i64 (if !true || decide ((s.length : Int) ≠ (l.length : Int)) then 7 else vright tb s l)
            rw [hres, hr']
          · have hnext := heq0 hr
            conv => whnf
            intro hw3
            refine ⟨l.length - (j + 1), rrS s (c, i, l) (j + 1), by omega, ?_, j + 1, by omega, rfl, rfl, hnext⟩
            exact weak2 hw3 rfl ⟨.ptr 0 0 (of_decide_eq_true rfl), .str _, .int hwj, trivial⟩ (.cons (.free (mcells_free' (c, i, l))) (.nil _)) (fun id hid => by cases hid) rfl (fun id hid => by cases hid)
        · have hge' : decide ((j : Int) < (s.length : Int)) = false := hge
          rw [decide_eq_false_iff_not] at hge'
          obtain rfl : j = l.length := by omega
          have h0 : vright tb s l = 0 := by
            rw [← hinv, List.drop_length, ← hlen, List.drop_length]; rfl
          conv => whnf
          refine ⟨.im _, ?_⟩
          show V.int .i64 0 = V.int .i64 (if !true || decide ((s.length : Int) ≠ (l.length : Int)) then 7 else vright tb s l)
          rw [hres, h0]
end Go.Abs.Sig
