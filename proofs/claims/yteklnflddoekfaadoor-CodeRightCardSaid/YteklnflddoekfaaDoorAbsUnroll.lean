/- Loops, round by round. -/
import Derived.Test.YteklnflddoekfaaDoorAbsEv5
namespace Go.Abs
open Go.RowKit

variable {P : Program} {G : Nat → Option (List V)}

theorem stepR_scope {b : Frame} {a : Act} {k : List Item} {cs : List Frame} {w : World} {c : Code} : step P (lone (b.atR a (.code (.scope c) :: k)) cs w) = .next (lone (b.atR a (.code c :: .inScope c :: k)) cs w) :=
  step_lone_go (by simp [stepG, stepG.exec, Frame.atR])
theorem stepR_inScope {b : Frame} {a : Act} {k : List Item} {cs : List Frame} {w : World} {c : Code} : step P (lone (b.atR a (.inScope c :: k)) cs w) = .next (lone (b.atR a k) cs w) :=
  step_lone_go (by simp [stepG, stepG.exec, Frame.atR])

/-- A scope that no jump enters. -/
theorem wpIn_scope {F : Fence} {n : Nat} {c : Code} {Q : Exit → Act → World → Prop} {a : Act} {w : World} (h : c.wpIn F n P (fun e a w => match e with
    | .goto _ => False
    | e => Q e a w) a w) : (Code.scope c).wpIn F n P Q a w := by
  intro b k cs hro hb hr
  obtain ⟨e, a₁, w₁, hq, harr⟩ := h b (.inScope c :: k) cs hro hb hr
  cases e with
  | normal => exact ⟨_, a₁, w₁, hq, .of_steps (.one (fenced_calm hb hr rfl) stepR_scope) (StepsIn.trans harr (.one (fenced_calm hb hr rfl) stepR_inScope))⟩
  | exit id => exact ⟨.exit id, a₁, w₁, hq, .of_steps (.one (fenced_calm hb hr rfl) stepR_scope) ⟨fun k' hk => harr.1 k' (by simp [exitTo, hk]), fun hr' hk => harr.2 hr' (by simp [exitTo, hk])⟩⟩
  | goto l => exact hq.elim
  | ret => exact ⟨_, a₁, w₁, hq, .of_steps (.one (fenced_calm hb hr rfl) stepR_scope) harr⟩
  | panic ch => exact ⟨_, a₁, w₁, hq, .of_steps (.one (fenced_calm hb hr rfl) stepR_scope) harr⟩
  | outgrown => exact ⟨_, a₁, w₁, hq, .of_steps (.one (fenced_calm hb hr rfl) stepR_scope) harr⟩

/-- The same over states. -/
theorem wpc_scope2 {c : Code} {Φ : Exit → S2 → Prop} {s : S2} (hw : s.Wf) (h : evCode2 P G c (fun x s' => match x with
    | .goto _ => False
    | x => Φ x s') s) : WPc P G (.scope c) (toΦ s.n Φ) s.st := by
  intro a w e hst
  refine wpIn_scope (wpIn_mono (evCode2_sound c s.n _ s hw rfl h a w e hst) ?_)
  rintro x a1 w1 ⟨σ1, e1, ⟨s1, rfl, hw1, hn1, hΦ⟩, hrest⟩
  cases x with
  | goto l => exact hΦ.elim
  | _ => exact ⟨s1.st, e1, ⟨s1, rfl, hw1, hn1, hΦ⟩, hrest⟩

/-- The loop's body comes up once more. -/
def LpIn (F : Fence) (n : Nat) (P : Program) (c : Code) (Q : Exit → Act → World → Prop) (a : Act) (w : World) : Prop :=
  ∀ (b : Frame) (k : List Item) (cs : List Frame), b.roundOf = F.round → F.fn b.fn → F.room (cs.length + 1 + n) →
    ∃ e a' w', Q e a' w' ∧ ArrivesIn (Machine.fenced P F) P (lone (b.atR a (.code c :: .inLoop c :: k)) cs w) b k cs e a' w'

theorem lp_loop {F : Fence} {n : Nat} {c : Code} {Q : Exit → Act → World → Prop} {a : Act} {w : World} (h : LpIn F n P c Q a w) : (Code.loop c).wpIn F n P Q a w := by
  intro b k cs hro hb hr
  obtain ⟨e, a', w', hq, harr⟩ := h b k cs hro hb hr
  exact ⟨e, a', w', hq, .of_steps (.one (fenced_calm hb hr rfl) stepR_loop) harr⟩

theorem lp_round {F : Fence} {n : Nat} {c : Code} {Q : Exit → Act → World → Prop} {a : Act} {w : World} (h : c.wpIn F n P (Exit.then (fun a' w' => LpIn F n P c Q a' w') Q) a w) : LpIn F n P c Q a w := by
  intro b k cs hro hb hr
  obtain ⟨e, a₁, w₁, hq, harr⟩ := h b (.inLoop c :: k) cs hro hb hr
  cases e with
  | normal =>
    obtain ⟨e₂, a₂, w₂, hq₂, harr₂⟩ := hq b k cs hro hb hr
    exact ⟨e₂, a₂, w₂, hq₂, .of_steps (StepsIn.trans harr (.one (fenced_calm hb hr rfl) stepR_inLoop)) harr₂⟩
  | exit id => exact ⟨_, a₁, w₁, hq, .pass (x := .inLoop c) rfl (fun _ _ => .inl (by simp)) harr⟩
  | goto l => exact ⟨_, a₁, w₁, hq, .pass (x := .inLoop c) rfl (fun _ _ => .inl (by simp)) harr⟩
  | ret => exact ⟨_, a₁, w₁, hq, .pass (x := .inLoop c) rfl (fun _ _ => .inl (by simp)) harr⟩
  | panic ch => exact ⟨_, a₁, w₁, hq, .pass (x := .inLoop c) rfl (fun _ _ => .inl (by simp)) harr⟩
  | outgrown => exact ⟨_, a₁, w₁, hq, .pass (x := .inLoop c) rfl (fun _ _ => .inl (by simp)) harr⟩

/-- The same over states. -/
def Lp2 (P : Program) (G : Nat → Option (List V)) (c : Code) (n : Nat) (Φ : Exit → S2 → Prop) (s : S2) : Prop :=
  ∀ a w e, RSt G s.st a w e → LpIn (FW (s.st.cur.map e.ρ)) 0 P c (fun x a' w' => ∃ σ' e', toΦ n Φ x σ' ∧ σ'.cur = s.st.cur ∧ RSt G σ' a' w' e' ∧ Ext s.st.H w e σ'.H w' e') a w

theorem wpc_unroll {c : Code} {Φ : Exit → S2 → Prop} {s : S2} {n : Nat} (h : Lp2 P G c n Φ s) : WPc P G (.loop c) (toΦ n Φ) s.st := fun a w e hst => lp_loop (h a w e hst)

/-- One round. -/
theorem lp2_round {c : Code} {Φ : Exit → S2 → Prop} {s : S2} {n : Nat} (hw : s.Wf) (hn : s.n = n) (h : evCode2 P G c (fun x s' => match x with
      | .normal => s'.Wf → ∃ s2, Weak G s'.st s2.st ∧ s'.st.H.length ≤ s2.st.H.length ∧ Lp2 P G c n Φ s2
      | x => Φ x s') s) : Lp2 P G c n Φ s := by
  intro a w e hst
  refine lp_round (wpIn_mono (evCode2_sound c n _ s hw hn h a w e hst) ?_)
  rintro x a1 w1 ⟨σ1, e1, ⟨s1, rfl, hw1, hn1, hΦ⟩, hc1, hst1, hx1⟩
  cases x with
  | normal =>
    obtain ⟨s2, hwk, hlen, hlp⟩ := hΦ hw1
    obtain ⟨e2, hst2, hx2⟩ := hwk.2 a1 w1 e1 hst1
    have hx3 := hx2 _ _ _ (Nat.le_trans hx1.len hlen) hx1
    have := hlp a1 w1 e2 hst2
    intro b k cs hro hb hr
    have hcur : s2.st.cur.map e2.ρ = s.st.cur.map e.ρ := cur_same hst (hwk.1.trans hc1) hx3
    rw [hcur] at this
    obtain ⟨ex, a', w', ⟨σ', e', h1, h2, h3, h4⟩, harr⟩ := this b k cs hro hb hr
    exact ⟨ex, a', w', ⟨σ', e', h1, h2.trans (hwk.1.trans hc1), h3, hx3.trans h4⟩, harr⟩
  | _ => exact ⟨s1.st, e1, ⟨s1, rfl, hw1, hn1, hΦ⟩, hc1, hst1, hx1⟩

end Go.Abs
