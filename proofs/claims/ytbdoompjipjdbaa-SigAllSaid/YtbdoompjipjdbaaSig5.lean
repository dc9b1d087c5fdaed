/- The walks of some functions: what they compute. -/
import Derived.Test.YtbdoompjipjdbaaSig4
namespace Go.Abs.Sig
open Go.RowKit Go.Abs
set_option linter.unusedSimpArgs false
set_option linter.unusedVariables false
set_option maxRecDepth 8000
attribute [local irreducible] StCall StYield WPc Weak IterOf Call2

theorem shown_ct (G : Nat → Option (List V)) (H : Heap) : Call2 Go.Proofs.Try.prog G 9 [] H fun v H' => H' = H ∧ v = .bool true := by
  refine Call2.free (fun v hv => by cases hv) ?_ H
  refine stCall2 Go.Proofs.Try.func9 rfl (by decide) ?_
  conv => whnf
  refine (of_ct G 10 30 _).mono fun r0 H0 h => ?_
  obtain ⟨h1, h2⟩ := h
  rw [h1, h2]
  conv => whnf
  refine (replies_ct G 60 70 _).mono fun r0 H0 h => ?_
  obtain ⟨h1, h2⟩ := h
  rw [h1, h2]
  have e1 : rowAt 10 30 = (10, 30, [115, 108, 115], 2, 31, 0) := by rfl
  have e2 : isAt 10 30 = true := by rfl
  have e3 : replies 60 70 = [71, 72] := by rfl
  rw [e1, e2, e3]
  conv => whnf
  exact ⟨.im _, rfl⟩

set_option maxRecDepth 100000 in
theorem tab_at : (tab.all fun r => decide (rowAt r.1 r.2.1 = r)) = true := by decide
set_option maxRecDepth 100000 in
theorem tab_one : (tab.all fun r => tab.all fun r' => !(decide (r.1 = r'.1)) || ((r.2.2.2.2.1 == 0 || (r.2.2.2.2.1 != r'.2.2.2.2.1 && r.2.2.2.2.1 != r'.2.2.2.2.2)) && (r.2.2.2.2.2 == 0 || (r.2.2.2.2.2 != r'.2.2.2.2.1 && r.2.2.2.2.2 != r'.2.2.2.2.2))) || decide (r.2.1 = r'.2.1)) = true := by decide

theorem asks_row {c i : Int} (h : asks c i ≠ 0) : ∃ r ∈ tab, asks c i = r.2.1 ∧ i ≠ 0 ∧ r.1 = c ∧ (r.2.2.2.2.1 = i ∨ r.2.2.2.2.2 = i) := by
  unfold asks at *
  cases hf : tab.find? (pAsks c i) with
  | none => rw [hf] at h; exact absurd rfl h
  | some r =>
    have hp := List.find?_some hf
    simp only [pAsks, Bool.and_eq_true, Bool.or_eq_true, decide_eq_true_eq] at hp
    exact ⟨r, List.mem_of_find?_eq_some hf, rfl, hp.1.1, hp.1.2, hp.2⟩

theorem row_of {r : Row'} (h : r ∈ tab) : rowAt r.1 r.2.1 = r := by
  have := List.all_eq_true.1 tab_at r h
  simpa using this

theorem mem_replies {c o i : Int} (h : i ∈ replies c o) : ∃ r ∈ tab, r.1 = c ∧ r.2.1 = o ∧ i ≠ 0 ∧ (r.2.2.2.2.1 = i ∨ r.2.2.2.2.2 = i) := by
  unfold replies rowAt at h
  cases hf : tab.find? (pAt c o) with
  | none => rw [hf] at h; simp [zrow, nz] at h
  | some r =>
    rw [hf] at h
    have hp := List.find?_some hf
    simp only [pAt, Bool.and_eq_true, decide_eq_true_eq] at hp
    refine ⟨r, List.mem_of_find?_eq_some hf, hp.1, hp.2, ?_⟩
    simp only [Option.getD_some, nz, List.mem_append] at h
    rcases h with h | h
    · split at h
      · cases h
      · rename_i h0
        simp at h
        subst h
        exact ⟨h0, .inl rfl⟩
    · split at h
      · cases h
      · rename_i h0
        simp at h
        subst h
        exact ⟨h0, .inr rfl⟩

/-- Who asks is told, and what answers it. -/
theorem pairs_in (c i : Int) (h : asks c i ≠ 0) : i ∈ replies c (asks c i) := by
  obtain ⟨r, hr, ha, hi, hc, hrep⟩ := asks_row h
  rw [ha, ← hc]
  unfold replies
  rw [row_of hr, List.mem_append]
  rcases hrep with rfl | rfl
  · left; unfold nz; rw [if_neg hi]; simp
  · right; unfold nz; rw [if_neg hi]; simp

theorem pairs_one (c i o : Int) (h : asks c i ≠ 0) (hi : i ∈ replies c o) : o = asks c i := by
  obtain ⟨r, hr, ha, hi0, hc, hrep⟩ := asks_row h
  obtain ⟨r', hr', hc', ho, _, hrep'⟩ := mem_replies hi
  have := List.all_eq_true.1 (List.all_eq_true.1 tab_one r hr) r' hr'
  simp only [Bool.or_eq_true, Bool.and_eq_true, Bool.not_eq_true', decide_eq_false_iff_not, decide_eq_true_eq, beq_iff_eq, bne_iff_ne] at this
  rw [ha, ← ho]
  rcases this with (h1 | h1) | h1
  · exact absurd (hc.trans hc'.symm) h1
  · exfalso
    rcases hrep with h2 | h2 <;> rcases hrep' with h3 | h3 <;> rw [← h3] at h2 hi0 <;> rcases h1 with ⟨h4, h5⟩ <;> simp_all
  · exact h1.symm

theorem ints_free (l : List Int) : (V.dat 1 (ints l) .no).Free := .dat _ _ _ (by simp)

theorem any_take {α : Type} (l : List α) (p : α → Bool) (j : Nat) (x : α) (h : l[j]? = some x) : (l.take (j + 1)).any p = ((l.take j).any p || p x) := by
  rw [List.take_add_one, h]
  simp

theorem ints_get (l : List Int) (j : Nat) (x : Int) (h : l[j]? = some x) : (ints l)[j]? = some [.int .i64 x] := by
  unfold ints
  rw [List.getElem?_map, h]
  rfl

theorem ints_len (l : List Int) : (ints l).length = l.length := by simp [ints]

def prS (c i o a : Int) (l : List Int) (b : Bool) (j : Nat) : S2 := headS 63 ([.int .i64 c, .int .i64 i, .int .i64 o, .bad, .bad, .bad, .bad, .bool true, .int .i64 a, .dat 1 (ints l) .no, .bool b, .int .i64 (j : Int)] ++ List.replicate 51 .bad) [] [] none

def prS2 (i o a : Int) (k : List Int) (j : Nat) : S2 := headS 63 ([.bad, .int .i64 i, .int .i64 o, .bad, .bad, .bad, .bad, .bool true, .int .i64 a, .bad, .bool true, .bad, .dat 1 (ints k) .no, .int .i64 (j : Int)] ++ List.replicate 49 .bad) [] [] none

theorem replies_len (c i : Int) : (replies c i).length ≤ 2 := by
  unfold replies nz
  split <;> split <;> simp

theorem pairs_ct (G : Nat → Option (List V)) (c i o : Int) (H : Heap) : Call2 Go.Proofs.Try.prog G 3 [.int .i64 c, .int .i64 i, .int .i64 o] H fun v H' => H' = H ∧ v = .bool true := by
  refine Call2.free (int_free (vs := [c, i, o])) ?_ H
  refine stCall2 Go.Proofs.Try.func3 rfl (by decide) ?_
  conv => whnf
  refine (shown_ct G _).mono fun r0 H0 h => ?_
  obtain ⟨h1, h2⟩ := h
  rw [h1, h2]
  clear h1 h2 r0 H0
  conv => whnf
  refine (asks_ct G c i _).mono fun r0 H0 h => ?_
  obtain ⟨h1, h2⟩ := h
  rw [h1, h2]
  clear h1 h2 r0 H0
  conv => whnf
  refine br_intro (fun h0 => ?_) (fun h0 => ?_)
  · conv => whnf
    exact ⟨.im _, rfl⟩
  have h0 : asks c i ≠ 0 := by simpa using h0
  conv => whnf
  refine (replies_ct G c (asks c i) _).mono fun r0 H0 h => ?_
  obtain ⟨h1, h2⟩ := h
  rw [h1, h2]
  clear h1 h2 r0 H0
  generalize hl : replies c (asks c i) = l
  conv => whnf
  intro hw
  have hln : l.length ≤ 2 := by
    rw [← hl]
    unfold replies nz
    split <;> split <;> simp
  refine wpc_loop2 (fun m s1 => ∃ j : Nat, j ≤ l.length ∧ m = l.length - j ∧ s1 = prS c i o (asks c i) l ((l.take j).any fun x => decide (x = i)) j) l.length
    (prS c i o (asks c i) l false 0) ?_ ⟨0, by omega, rfl, rfl⟩ ?_ ?_
  · exact weak2 hw rfl ⟨.im _, .im _, .im _, .im _, .im _, .free (ints_free l), .im _, .im _, trivial⟩ (.nil _) (fun id hid => by cases hid) rfl (fun id hid => by cases hid)
  · rintro m s1 ⟨j, hj, rfl, rfl⟩
    exact ⟨⟨Nat.le_refl 63, fun x hx => by cases hx⟩, rfl, Nat.le_refl 0, rfl⟩
  · rintro m s1 ⟨j, hj, rfl, rfl⟩
    conv => whnf
    refine br_intro (fun hlt => ?_) (fun hge => ?_)
    · rw [decide_eq_true_eq, ints_len] at hlt
      have hjl : j < l.length := by omega
      obtain ⟨x, hx⟩ : ∃ x, l[j]? = some x := ⟨l[j], List.getElem?_eq_getElem hjl⟩
      have hstep := any_take l (fun x => decide (x = i)) j x hx
      have hw63 : IntKind.i64.wrap ((j : Int) + 1) = ((j + 1 : Nat) : Int) := by rw [wrap_i64 (by omega) (by omega)]; rfl
      conv => whnf
      refine br_intro (fun hb => ?_) (fun hb => ?_)
      · conv => whnf
        intro hw2
        refine ⟨l.length - (j + 1), prS c i o (asks c i) l ((l.take (j + 1)).any fun x => decide (x = i)) (j + 1), by omega, ?_, j + 1, by omega, rfl, rfl⟩
        exact weak2 hw2 rfl ⟨.im _, .im _, .im _, .im _, .im _, .free (ints_free l), .boolE (by rw [hstep, hb]; rfl), .int hw63, trivial⟩ (.nil _) (fun id hid => by cases hid) rfl (fun id hid => by cases hid)
      · conv => whnf
        refine grd_intro (by show (true && true && decide ((0 : Int) ≤ (j : Int))) = true; simp) ?_
        rw [show (ints l)[Int.toNat (j : Int)]? = some [.int .i64 x] from ints_get l j x hx]
        conv => whnf
        intro hw2
        refine ⟨l.length - (j + 1), prS c i o (asks c i) l ((l.take (j + 1)).any fun x => decide (x = i)) (j + 1), by omega, ?_, j + 1, by omega, rfl, rfl⟩
        exact weak2 hw2 rfl ⟨.im _, .im _, .im _, .im _, .im _, .free (ints_free l), .boolE (by rw [hstep, hb]; rfl), .int hw63, trivial⟩ (.nil _) (fun id hid => by cases hid) rfl (fun id hid => by cases hid)
    · rw [decide_eq_false_iff_not, ints_len] at hge
      have hjl : j = l.length := by omega
      subst hjl
      rw [List.take_length]
      have hin : (l.any fun x => decide (x = i)) = true := by
        rw [List.any_eq_true]
        exact ⟨i, by rw [← hl]; exact pairs_in c i h0, by simp⟩
      rw [hin]
      conv => whnf
      refine (replies_ct G c o _).mono fun r0 H0 h => ?_
      obtain ⟨h1, h2⟩ := h
      rw [h1, h2]
      clear h1 h2 r0 H0
      generalize hk : replies c o = k
      conv => whnf
      intro hw2
      have hkn : k.length ≤ 2 := hk ▸ replies_len c o
      refine wpc_loop2 (fun m s1 => ∃ j : Nat, j ≤ k.length ∧ m = k.length - j ∧ s1 = prS2 i o (asks c i) k j) k.length
        (prS2 i o (asks c i) k 0) ?_ ⟨0, by omega, rfl, rfl⟩ ?_ ?_
      · exact weak2 hw2 rfl ⟨.im _, .im _, .im _, .im _, .im _, .free (ints_free k), .im _, trivial⟩ (.nil _) (fun id hid => by cases hid) rfl (fun id hid => by cases hid)
      · rintro m s1 ⟨j, hj, rfl, rfl⟩
        exact ⟨⟨Nat.le_refl 63, fun x hx => by cases hx⟩, rfl, Nat.le_refl 0, rfl⟩
      · rintro m s1 ⟨j, hj, rfl, rfl⟩
        conv => whnf
        refine br_intro (fun hlt => ?_) (fun hge => ?_)
        · rw [decide_eq_true_eq, ints_len] at hlt
          have hjl : j < k.length := by omega
          obtain ⟨x, hx⟩ : ∃ x, k[j]? = some x := ⟨k[j], List.getElem?_eq_getElem hjl⟩
          have hw63 : IntKind.i64.wrap ((j : Int) + 1) = ((j + 1 : Nat) : Int) := by rw [wrap_i64 (by omega) (by omega)]; rfl
          conv => whnf
          refine grd_intro (by show (true && true && decide ((0 : Int) ≤ (j : Int))) = true; simp) ?_
          rw [show (ints k)[Int.toNat (j : Int)]? = some [.int .i64 x] from ints_get k j x hx]
          conv => whnf
          refine br_intro (fun hb => ?_) (fun hb => ?_)
          · rw [decide_eq_true_eq] at hb
            have ho : o = asks c i := pairs_one c i o h0 (by rw [hk, ← hb]; exact List.mem_of_getElem? hx)
            conv => whnf
            refine br_intro (fun hne => ?_) (fun hne => ?_)
            · have hne' : decide (o ≠ asks c i) = true := hne
              rw [decide_eq_true_eq] at hne'
              exact absurd ho hne'
            conv => whnf
            intro hw3
            refine ⟨k.length - (j + 1), prS2 i o (asks c i) k (j + 1), by omega, ?_, j + 1, by omega, rfl, rfl⟩
            exact weak2 hw3 rfl ⟨.im _, .im _, .im _, .im _, .im _, .free (ints_free k), .int hw63, trivial⟩ (.nil _) (fun id hid => by cases hid) rfl (fun id hid => by cases hid)
          · conv => whnf
            intro hw3
            refine ⟨k.length - (j + 1), prS2 i o (asks c i) k (j + 1), by omega, ?_, j + 1, by omega, rfl, rfl⟩
            exact weak2 hw3 rfl ⟨.im _, .im _, .im _, .im _, .im _, .free (ints_free k), .int hw63, trivial⟩ (.nil _) (fun id hid => by cases hid) rfl (fun id hid => by cases hid)
        · conv => whnf
          exact ⟨.im _, rfl⟩
end Go.Abs.Sig
