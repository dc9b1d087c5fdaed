/- The walks of some functions: what they compute. -/
import Derived.Test.YtbdoompjipjdbaaSig6
namespace Go.Abs.Sig
open Go.RowKit Go.Abs
set_option linter.unusedSimpArgs false
set_option linter.unusedVariables false
set_option maxRecDepth 8000
attribute [local irreducible] StCall StYield WPc Weak IterOf Call2

def letters : List UInt8 := [111, 115, 108, 113, 98, 83, 76, 84]
set_option maxRecDepth 100000 in
theorem tab_letters : (tab.all fun r => r.2.2.1.all fun b => letters.contains b) = true := by decide
set_option maxRecDepth 100000 in
theorem tab_side : (tab.all fun r => decide (1 ≤ r.2.2.2.1) && decide (r.2.2.2.1 ≤ 3)) = true := by decide

theorem at_none {c i : Int} (h : isAt c i = false) : rowAt c i = zrow := by
  unfold isAt at h
  unfold rowAt
  cases hf : tab.find? (pAt c i) with
  | none => rfl
  | some r => rw [hf] at h; cases h

theorem at_some {c i : Int} (h : isAt c i = true) : rowAt c i ∈ tab := by
  unfold isAt at h
  unfold rowAt
  cases hf : tab.find? (pAt c i) with
  | none => rw [hf] at h; cases h
  | some r => exact List.mem_of_find?_eq_some hf

theorem letters_at {c i : Int} {b : UInt8} (h : b ∈ (rowAt c i).2.2.1) : b = 111 ∨ b = 115 ∨ b = 108 ∨ b = 113 ∨ b = 98 ∨ b = 83 ∨ b = 76 ∨ b = 84 := by
  cases hb : isAt c i with
  | false => rw [at_none hb] at h; cases h
  | true =>
    have := List.all_eq_true.1 (List.all_eq_true.1 tab_letters _ (at_some hb)) b h
    simpa [letters] using this

def leS (c i : Int) (s : List UInt8) (is : Bool) (j : Nat) : S2 := headS 95 ([.int .i64 c, .int .i64 i, .bad, .bad, .bad, .bool true, .str s, .bool is, .int .i64 (j : Int)] ++ List.replicate 86 .bad) [] [] none

theorem tab_short (c i : Int) : (rowAt c i).2.2.1.length ≤ 100 := by
  cases hb : isAt c i with
  | false => rw [at_none hb]; decide
  | true =>
    have h : (tab.all fun r => decide (r.2.2.1.length ≤ 100)) = true := by decide
    have := List.all_eq_true.1 h _ (at_some hb)
    simpa using this

theorem content_at {c i : Int} (h : isAt c i = false) : content c i = false := by
  cases hc : content c i with
  | false => rfl
  | true =>
    obtain ⟨rfl, hi⟩ := content_cases hc
    rcases hi with rfl | rfl | rfl | rfl <;> cases h

theorem letters_ct (G : Nat → Option (List V)) (c i : Int) (H : Heap) : Call2 Go.Proofs.Try.prog G 5 [.int .i64 c, .int .i64 i] H fun v H' => H' = H ∧ v = .bool true := by
  refine Call2.free (int_free (vs := [c, i])) ?_ H
  refine stCall2 Go.Proofs.Try.func5 rfl (by decide) ?_
  conv => whnf
  refine (shown_ct G _).mono fun r0 H0 h => ?_
  obtain ⟨h1, h2⟩ := h
  rw [h1, h2]
  clear h1 h2 r0 H0
  conv => whnf
  refine (of_ct G c i _).mono fun r0 H0 h => ?_
  obtain ⟨h1, h2⟩ := h
  rw [h1, h2]
  clear h1 h2 r0 H0
  generalize hs : (rowAt c i).2.2.1 = s
  generalize his : isAt c i = is
  conv => whnf
  intro hw
  have hsl : s.length ≤ 100 := hs ▸ tab_short c i
  refine wpc_loop2 (fun m s1 => ∃ j : Nat, j ≤ s.length ∧ m = s.length - j ∧ s1 = leS c i s is j) s.length
    (leS c i s is 0) ?_ ⟨0, by omega, rfl, rfl⟩ ?_ ?_
  · exact weak2 hw rfl ⟨.im _, .im _, .im _, .str _, .im _, .im _, trivial⟩ (.nil _) (fun id hid => by cases hid) rfl (fun id hid => by cases hid)
  · rintro m s1 ⟨j, hj, rfl, rfl⟩
    exact ⟨⟨Nat.le_refl 95, fun x hx => by cases hx⟩, rfl, Nat.le_refl 0, rfl⟩
  · rintro m s1 ⟨j, hj, rfl, rfl⟩
    conv => whnf
    refine br_intro (fun hlt => ?_) (fun hge => ?_)
    · rw [decide_eq_true_eq] at hlt
      have hjl : j < s.length := by omega
      obtain ⟨b, hb⟩ : ∃ b, s[j]? = some b := ⟨s[j], List.getElem?_eq_getElem hjl⟩
      have hw95 : IntKind.i64.wrap ((j : Int) + 1) = ((j + 1 : Nat) : Int) := by rw [wrap_i64 (by omega) (by omega)]; rfl
      have hbl := letters_at (c := c) (i := i) (b := b) (by rw [hs]; exact List.mem_of_getElem? hb)
      conv => whnf
      refine grd_intro (by show decide ((0 : Int) ≤ (j : Int)) = true; simp) ?_
      rw [show s[Int.toNat (j : Int)]? = some b from hb]
      have fin : ∀ s' : S2, s'.Wf → s'.n = 95 → s'.H = [] → s'.defs = [] → s'.cur = none → s'.base.length = 95 → look s'.upd s'.base 0 = .int .i64 c → look s'.upd s'.base 1 = .int .i64 i → look s'.upd s'.base 5 = .bool true →
          look s'.upd s'.base 6 = .str s → look s'.upd s'.base 7 = .bool is → look s'.upd s'.base 8 = .int .i64 (IntKind.i64.wrap ((j : Int) + 1)) →
          ∃ m' s2, m' < s.length - j ∧ Weak G s'.st s2.st ∧ ∃ j : Nat, j ≤ s.length ∧ m' = s.length - j ∧ s2 = leS c i s is j := by
        intro s' hw2 hn hH hd hc hb h0 h1 h5 h6 h7 h8
        refine ⟨s.length - (j + 1), leS c i s is (j + 1), by omega, ?_, j + 1, by omega, rfl, rfl⟩
        have hv : vwl 0 s'.upd s'.base 0 ([V.int .i64 c, .int .i64 i, .bad, .bad, .bad, .bool true, .str s, .bool is, .int .i64 ((j + 1 : Nat) : Int)] ++ List.replicate 86 V.bad) :=
          ⟨by rw [h0]; exact .im _, by rw [h1]; exact .im _, by rw [h5]; exact .im _, by rw [h6]; exact .str _, by rw [h7]; exact .im _, by rw [h8]; exact .int hw95, trivial⟩
        have := weak2 (G := G) (s := s') (H := []) (cur := none) hw2 (by rw [hb]; rfl) hv
          (.nil _) (by rw [hd]; intro id hid; cases hid) hc (fun id hid => by cases hid)
        rw [hn, hd] at this
        exact this
      rcases hbl with rfl | rfl | rfl | rfl | rfl | rfl | rfl | rfl
      all_goals (conv => whnf)
      all_goals exact fun hw2 => fin _ hw2 rfl rfl rfl rfl rfl rfl rfl rfl rfl rfl rfl
    · conv => whnf
      refine (side_ct G c i _).mono fun r0 H0 h => ?_
      obtain ⟨h1, h2⟩ := h
      rw [h1, h2]
      clear h1 h2 r0 H0
      cases is with
      | true =>
        have hsd := List.all_eq_true.1 tab_side _ (at_some his)
        simp only [Bool.and_eq_true, decide_eq_true_eq] at hsd
        generalize (rowAt c i).2.2.2.1 = sd at hsd
        obtain ⟨hs1, hs2⟩ := hsd
        have hc3 : sd = 1 ∨ sd = 2 ∨ sd = 3 := by omega
        rcases hc3 with rfl | rfl | rfl
        all_goals (conv => whnf)
        all_goals exact ⟨.im _, rfl⟩
      | false =>
        have hz := at_none his
        rw [hz] at hs ⊢
        subst hs
        conv => whnf
        refine (content_ct G c i _).mono fun r0 H0 h => ?_
        obtain ⟨h1, h2⟩ := h
        rw [h1, h2, content_at his]
        clear h1 h2 r0 H0
        conv => whnf
        refine (replies_ct G c i _).mono fun r0 H0 h => ?_
        obtain ⟨h1, h2⟩ := h
        rw [h1, h2, show replies c i = [] by unfold replies; rw [hz]; rfl]
        conv => whnf
        exact ⟨.im _, rfl⟩
end Go.Abs.Sig
