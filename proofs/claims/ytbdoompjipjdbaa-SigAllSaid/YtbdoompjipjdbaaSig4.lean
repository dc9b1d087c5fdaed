/- The walks of some functions: what they compute. -/
import Derived.Test.YtbdoompjipjdbaaSig3
namespace Go.Abs.Sig
open Go.RowKit Go.Abs
set_option linter.unusedSimpArgs false
set_option linter.unusedVariables false
set_option maxRecDepth 8000
attribute [local irreducible] StCall StYield WPc Weak IterOf Call2

def rp (x : Int) : List (List V) := if x = 0 then [] else [[.int .i64 x]]
def outs (r : Row') : Nat → List (List V)
  | 0 => []
  | 1 => rp r.2.2.2.2.1
  | _ => rp r.2.2.2.2.1 ++ rp r.2.2.2.2.2

def nz (x : Int) : List Int := if x = 0 then [] else [x]
def replies (c i : Int) : List Int := nz (rowAt c i).2.2.2.2.1 ++ nz (rowAt c i).2.2.2.2.2
def ints (l : List Int) : List (List V) := l.map fun n => [.int .i64 n]

theorem outs_ints (c i : Int) : outs (rowAt c i) 2 = ints (replies c i) := by
  show rp _ ++ rp _ = _
  unfold replies rp nz ints
  split <;> split <;> simp

theorem rp_len (x : Int) : (rp x).length ≤ 1 := by unfold rp; split <;> simp

def repS (r : Row') (j : Nat) : S2 := headS 29 [.bad, .bad, .bad, .bad, .bad, .bad, .bad, .dat 1 (outs r j) (.cls 26), .bad, .bad, .bad, .bad, .bad, .bad, .bad, .bad, .bad, .agg [.int .i64 r.2.2.2.2.1, .int .i64 r.2.2.2.2.2], .int .i64 (j : Int), .bad, .bad, .bad, .bad, .bad, .bad, .bad, .bad, .bad, .bad] [some (.cells 37 (rcells r))] [] none

theorem rep_scoped (r : Row') : Scoped [some (.cells 37 (rcells r))] := fun id b h => by
  cases id with
  | zero => simp at h; subst h; exact .free (rcells_free' r)
  | succ id => simp at h

theorem repW {G : Nat → Option (List V)} {s : S2} {r : Row'} {j : Nat} (hw : s.Wf) (hn : s.n = 29) (hH : s.H = [some (.cells 37 (rcells r))]) (hd : s.defs = []) (hc : s.cur = none) (hb : s.base.length = 29)
    (h7 : VW 1 (look s.upd s.base 7) (.dat 1 (outs r j) (.cls 26))) (h17 : VW 1 (look s.upd s.base 17) (.agg [.int .i64 r.2.2.2.2.1, .int .i64 r.2.2.2.2.2])) (h18 : VW 1 (look s.upd s.base 18) (.int .i64 (j : Int))) :
    Weak G s.st (repS r j).st := by
  have := weak2 (G := G) (s := s) (vs := [.bad, .bad, .bad, .bad, .bad, .bad, .bad, .dat 1 (outs r j) (.cls 26), .bad, .bad, .bad, .bad, .bad, .bad, .bad, .bad, .bad, .agg [.int .i64 r.2.2.2.2.1, .int .i64 r.2.2.2.2.2], .int .i64 (j : Int), .bad, .bad, .bad, .bad, .bad, .bad, .bad, .bad, .bad, .bad]) (H := [some (.cells 37 (rcells r))]) (cur := none) hw (by rw [hb]; rfl) ⟨h7, h17, h18, trivial⟩
    (by rw [hH]; exact (rep_scoped r).bws) (by rw [hd]; intro id hid; cases hid) hc (fun id hid => by cases hid)
  rw [hn, hd] at this
  exact this

theorem free_pair (a b : Int) : (V.agg [.int .i64 a, .int .i64 b]).Free := .agg _ fun v hv => by
  simp only [List.mem_cons, List.not_mem_nil, or_false] at hv
  rcases hv with rfl | rfl <;> exact .im _

theorem rp_pos {x : Int} (h : decide (x ≠ 0) = true) : rp x = [[.int .i64 x]] := by
  simp only [decide_eq_true_eq] at h
  unfold rp
  rw [if_neg h]
theorem rp_neg {x : Int} (h : decide (x ≠ 0) = false) : rp x = [] := by
  simp only [decide_eq_false_iff_not, ne_eq, Decidable.not_not] at h
  unfold rp
  rw [if_pos h]

theorem one_solid (x : Int) : ∀ q ∈ [[V.int .i64 x]], q.all V.solid = true := fun q hq => by
  simp only [List.mem_cons, List.not_mem_nil, or_false] at hq
  subst hq
  rfl

theorem replies_ct (G : Nat → Option (List V)) (c i : Int) (H : Heap) : Call2 Go.Proofs.Try.prog G 11 [.int .i64 c, .int .i64 i] H fun v H' => H' = H ∧ v = .dat 1 (ints (replies c i)) .no := by
  refine Call2.free (int_free (vs := [c, i])) ?_ H
  refine Call2.weakR ?_
  refine stCall2 Go.Proofs.Try.func11 rfl (by decide) ?_
  conv => whnf
  refine (at_ct G c i _).mono fun r0 H0 h => ?_
  obtain ⟨h1, h2⟩ := h
  rw [h1, h2]
  clear h1 h2 r0 H0
  generalize hr : rowAt c i = r
  conv => whnf
  intro hw
  refine wpc_loop2 (fun m s1 => ∃ j, j ≤ 2 ∧ m = 2 - j ∧ s1 = repS r j) 2 (repS r 0) ?_ ⟨0, by omega, rfl, rfl⟩ ?_ ?_
  · exact repW hw rfl rfl rfl rfl rfl (.nil _ _ _ _ (.inl rfl)) (.free (free_pair _ _)) (.int rfl)
  · rintro m s1 ⟨j, hj, rfl, rfl⟩
    exact ⟨⟨Nat.le_refl 29, fun x hx => by cases hx⟩, rfl, Nat.le_refl 1, rfl⟩
  · rintro m s1 ⟨j, hj, rfl, rfl⟩
    have hjc : j = 0 ∨ j = 1 ∨ j = 2 := by omega
    rcases hjc with rfl | rfl | rfl
    · conv => whnf
      refine br_intro (fun h => ?_) (fun h => ?_)
      · conv => whnf
        refine ⟨.inr rfl, .inr rfl, one_solid _, ?_, ?_, ?_⟩
        · show (0 + 1) * 8 ≤ maxBytes
          decide
        · show 0 + 1 ≤ maxBytes
          decide
        conv => whnf
        intro hw2
        refine ⟨1, repS r 1, by omega, repW hw2 rfl rfl rfl rfl rfl (.datE ?_) (.free (free_pair _ _)) (.int rfl), 1, by omega, rfl, rfl⟩
        exact (rp_pos h).symm
      · conv => whnf
        intro hw2
        refine ⟨1, repS r 1, by omega, repW hw2 rfl rfl rfl rfl rfl (.datE ?_) (.free (free_pair _ _)) (.int rfl), 1, by omega, rfl, rfl⟩
        exact (rp_neg h).symm
    · conv => whnf
      refine br_intro (fun h => ?_) (fun h => ?_)
      · conv => whnf
        have hlen := rp_len r.2.2.2.2.1
        refine ⟨.inr rfl, .inr rfl, one_solid _, ?_, ?_, ?_⟩
        · show ((rp r.2.2.2.2.1).length + 1) * 8 ≤ maxBytes
          unfold maxBytes
          omega
        · show (rp r.2.2.2.2.1).length + 1 ≤ maxBytes
          unfold maxBytes
          omega
        conv => whnf
        intro hw2
        refine ⟨0, repS r 2, by omega, repW hw2 rfl rfl rfl rfl rfl (.datE ?_) (.free (free_pair _ _)) (.int rfl), 2, by omega, rfl, rfl⟩
        show rp _ ++ [[_]] = rp _ ++ rp _
        rw [rp_pos h]
      · conv => whnf
        intro hw2
        refine ⟨0, repS r 2, by omega, repW hw2 rfl rfl rfl rfl rfl (.datE ?_) (.free (free_pair _ _)) (.int rfl), 2, by omega, rfl, rfl⟩
        show rp _ = rp _ ++ rp _
        rw [rp_neg h, List.append_nil]
    · conv => whnf
      refine ⟨_, VW.datE (show outs r 2 = ints (replies c i) from ?_), .dat _ _ _ (by simp), rfl⟩
      rw [← hr]
      exact outs_ints c i
end Go.Abs.Sig
