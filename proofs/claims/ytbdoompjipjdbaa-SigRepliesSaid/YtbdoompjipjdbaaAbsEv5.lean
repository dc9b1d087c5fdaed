/- Ranges over iterators and draws, laid out so that reduction alone works them out. -/
import Derived.Test.YtbdoompjipjdbaaAbsEv4
namespace Go.Abs
open Go.RowKit

variable {P : Program} {G : Nat → Option (List V)}

theorem Call2.frame {f : FuncId} {args : List V} {H : Heap} {Ψ : V → Heap → Prop} (X : Heap) (hs : Scoped H) (ha : ∀ v ∈ args, VW H.length v v ∧ v.strip = v) (hX : ∀ c, heapCls X c = true → heapCls H c = false)
    (h : Call2 P G f args H fun r H' => H'.length = H.length ∧ Ψ r H') : Call2 P G f args (H ++ X) fun r H'' => ∃ H', H'' = H' ++ X ∧ H'.length = H.length ∧ Scoped H' ∧ Ψ r H' :=
  ⟨h.1, h.2.frame X hs ha hX⟩

theorem Call2.inScope {f : FuncId} {args : List V} {H : Heap} {Ψ : V → Heap → Prop} (hf : fnOk P f) (h : Scoped H → Call2 P G f args H Ψ) : Call2 P G f args H Ψ := ⟨hf, StCall.inScope fun hs => (h hs).2⟩

theorem WPc.weak {c : Code} {Φ : Exit → St → Prop} {σ σ0 : St} (hw : Weak G σ σ0) (hl : σ.H.length ≤ σ0.H.length) (h : WPc P G c Φ σ0) : WPc P G c Φ σ := by
  intro a w e hst
  obtain ⟨e0, hst0, hx0⟩ := hw.2 a w e hst
  have hx := hx0 _ _ _ hl (.refl _ _ _)
  have := h a w e0 hst0
  rw [cur_same hst hw.1 hx] at this
  refine wpIn_mono this ?_
  rintro x a2 w2 ⟨σ2, e2, hΦ, hc2, hst2, hx2⟩
  exact ⟨σ2, e2, hΦ, hc2.trans hw.1, hst2, hx.trans hx2⟩

/-- What a round's body owes. -/
def bodyΦ2 (n : Nat) (T : List V) (H0 : Heap) (defs : List Nat) (H : Heap) (ps : Array Tmp) (as bd : Code) (Jn : Heap → Prop) (Φ : Exit → S2 → Prop) (x : Exit) (s2 : S2) : Prop :=
  ∃ H2 X, s2.H = loopH .busy H2 T ps as bd ++ X ∧ H2.length = H0.length ∧
    (∀ (id : Nat) (b : Blk), H2[id]? = some (some b) → H[id]? = some (some b) ∨ BW (H0.length + 2) (some b) (some b)) ∧
    match x with
    | .normal => Jn H2
    | .ret | .exit _ | .goto _ => Φ x (headS n T (H2 ++ [some .defd, none]) (H0.length :: defs) none)
    | _ => False

theorem wpc_rangeIter2 {f : Operand} {ps : Array Tmp} {as bd : Code} {Φ : Exit → S2 → Prop} {n : Nat} {T : List V} {H0 : Heap} {defs : List Nat} {g : FuncId} {first caps : List V} {items : List (List V)} {K : Heap → Prop}
    (it : IterOf P G g first caps items K) (hn : n ≤ T.length) (hT : T.map V.strip = T) (hf : (headS n T H0 defs none).ev f = .fn (.func g) first caps) (hfn : fnOk P g)
    (J : Nat → Heap → Prop) (h0 : J 0 H0) (hlen : ∀ i H, J i H → H.length = H0.length)
    (hK : ∀ i H, J i H → K (loopH .ready H T ps as bd))
    (hps : ∀ x ∈ items, x.length = ps.size)
    (round : ∀ (i : Nat) (x : List V) (H : Heap), items[i]? = some x → J i H → H.length = H0.length → Scoped (loopH .ready H T ps as bd) →
      evCode2 P G as (fun ex s1 => ex = .normal ∧ s1.H[H.length + 1]? = some (some (.loop .ready none T ps as bd H.length)) ∧
          evCode2 P G bd (bodyΦ2 n T H0 defs H ps as bd (J (i + 1)) Φ) (s1.setH (s1.H.set (H.length + 1) (some (.loop .busy none T ps as bd H.length)))))
        (headS n (setParams ps.toList x T) (loopH .ready H T ps as bd) [] (some (H.length + 1))))
    (hfin : ∀ H, J items.length H → Φ .normal (headS n T (H ++ [some .defd, none]) (H0.length :: defs) none)) :
    WPc P G (.rangeFunc f ps as bd) (toΦ n Φ) (headS n T H0 defs none).st := by
  obtain ⟨fn, hfn1, hfn2, hfn3⟩ := hfn
  have hwf : ∀ H ds c, (headS n T H ds c).Wf := fun H ds c => ⟨hn, fun x hx => by cases hx⟩
  have hTs : (headS n T H0 defs none).st.tmps.map V.strip = T := hT
  have hΦ : ∀ ex H ds, Φ ex (headS n T H ds none) → toΦ n Φ ex { (headS n T H0 defs none).st with tmps := T, H := H, defs := ds } := fun ex H ds h => ⟨headS n T H ds none, rfl, hwf _ _ _, rfl, h⟩
  have hps' : ∀ (ps : List Tmp) (x T : List V), (setParams ps x T).length = T.length := by
    intro ps
    induction ps with
    | nil => intro x T; cases x <;> rfl
    | cons p ps ih =>
      intro x T
      cases x with
      | nil => rfl
      | cons a x => simp [setParams, ih]
  refine wpc_rangeIterW it rfl ((S2.ev_eq (hwf _ _ _) f).trans hf) hfn1 hfn2 hfn3 J h0 hlen (by rw [hTs]; exact hK) hps ?_ ?_
  · rw [hTs]
    intro i x H hx hJ hl hs
    have hwr : (headS n (setParams ps.toList x T) (loopH .ready H T ps as bd) [] (some (H.length + 1))).Wf := ⟨by show n ≤ (setParams ps.toList x T).length; rw [hps']; exact hn, fun x hx => by cases hx⟩
    refine (evCode2_sound as n _ _ hwr rfl (round i x H hx hJ hl hs)).mono ?_
    rintro ex σ1 ⟨s1, rfl, hw1, hn1, rfl, h2, h3⟩
    refine ⟨rfl, h2, ?_⟩
    have hset : ({ s1.st with H := s1.st.H.set (H.length + 1) (some (.loop .busy none T ps as bd H.length)) } : St) = (s1.setH (s1.H.set (H.length + 1) (some (.loop .busy none T ps as bd H.length)))).st := by
      rw [S2.setH_eq]; rfl
    rw [hset]
    refine (evCode2_sound bd n _ _ (by rw [S2.setH_eq]; exact ⟨hw1.n, hw1.d⟩) (by rw [S2.setH_eq]; exact hn1) h3).mono ?_
    rintro ex σ2 ⟨s2, rfl, hw2, hn2, H2, X, h4, h5, h6, h7⟩
    refine ⟨H2, X, by rw [hTs]; exact h4, h5, h6, ?_⟩
    rw [hTs]
    cases ex with
    | normal => exact h7
    | ret => exact hΦ _ _ _ h7
    | exit j => exact hΦ _ _ _ h7
    | goto l => exact hΦ _ _ _ h7
    | panic c => exact h7
    | outgrown => exact h7
  · intro H hJ
    rw [hTs]
    exact hΦ _ _ _ (hfin H hJ)

/-- What leaves the heap as it is, leaves a greater one as it is. -/
theorem Call2.frame' {f : FuncId} {args : List V} {H : Heap} {Ψ : V → Prop} (h : Call2 P G f args H fun r H' => H' = H ∧ Ψ r) (X : Heap) (hs : Scoped H) (ha : ∀ v ∈ args, VW H.length v v ∧ v.strip = v) (hX : ∀ c, heapCls X c = true → heapCls H c = false) :
    Call2 P G f args (H ++ X) fun r H' => H' = H ++ X ∧ Ψ r :=
  (Call2.frame X hs ha hX (h.mono fun r H' ⟨h1, h2⟩ => ⟨by rw [h1], (⟨h1, h2⟩ : H' = H ∧ Ψ r)⟩)).mono fun r H'' ⟨H', h1, _, _, h2, h3⟩ => ⟨by rw [h1, h2], h3⟩

/-- A result that says less. -/
theorem StCall.weakR {f : FuncId} {args : List V} {H : Heap} {Ψ : V → Heap → Prop} (h : StCall P G f args H fun r H' => ∃ r', VW H'.length r r' ∧ Ψ r' H') : StCall P G f args H Ψ := by
  intro w e us hR hargs
  refine CallsIn.mono (h w e us hR hargs) ?_
  rintro en w' ⟨v, r, H', e', rfl, ⟨r', hr, hΨ⟩, hR', hv, hx⟩
  refine ⟨v, r', H', e', rfl, hΨ, hR', ?_, hx⟩
  have := hr.repF (e := e') (by rw [hR'.len]; exact Nat.le_refl _) hv
  have he : e'.cutTo H'.length = e' := by
    rw [← hR'.len]
    rfl
  rwa [he] at this

theorem Call2.weakR {f : FuncId} {args : List V} {H : Heap} {Ψ : V → Heap → Prop} (h : Call2 P G f args H fun r H' => ∃ r', VW H'.length r r' ∧ Ψ r' H') : Call2 P G f args H Ψ := ⟨h.1, h.2.weakR⟩

end Go.Abs
