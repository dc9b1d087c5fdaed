/- Ranges over iterators and draws, laid out so that reduction alone works them out. -/
import Derived.Test.YteklnflddoekfaaDoorAbsEv4
namespace Go.Abs
open Go.RowKit

variable {P : Program} {G : Nat → Option (List V)}

theorem Call2.frame {f : FuncId} {args : List V} {H : Heap} {Ψ : V → Heap → Prop} (X : Heap) (hs : Scoped H) (ha : ∀ v ∈ args, VW H.length v v ∧ v.strip = v) (hX : ∀ c, heapCls X c = true → heapCls H c = false)
    (h : Call2 P G f args H fun r H' => H'.length = H.length ∧ Ψ r H') : Call2 P G f args (H ++ X) fun r H'' => ∃ H', H'' = H' ++ X ∧ H'.length = H.length ∧ Scoped H' ∧ Ψ r H' :=
  ⟨h.1, h.2.frame X hs ha hX⟩

theorem Call2.inScope {f : FuncId} {args : List V} {H : Heap} {Ψ : V → Heap → Prop} (hf : fnOk P f) (h : Scoped H → Call2 P G f args H Ψ) : Call2 P G f args H Ψ := ⟨hf, StCall.inScope fun hs => (h hs).2⟩

theorem WPc.weak {c : Code} {Φ : Exit → St → Prop} {σ σ0 : St} (hw : Weak G σ σ0) (hl : σ.H.length ≤ σ0.H.length) (h : WPc P G c Φ σ0) : WPc P G c Φ σ := by
  intro a w e hst
  obtain ⟨e0, hst0, hx0⟩ := hw.2 a w e hst
  have hx := hx0 _ _ _ hl (.refl _ _ _)
  have := h a w e0 hst0
  rw [cur_same hst hw.1 hx] at this
  refine wpIn_mono this ?_
  rintro x a2 w2 ⟨σ2, e2, hΦ, hc2, hst2, hx2⟩
  exact ⟨σ2, e2, hΦ, hc2.trans hw.1, hst2, hx.trans hx2⟩

/-- What a round's body owes. -/
def bodyΦ2 (n : Nat) (T : List V) (H0 : Heap) (defs : List Nat) (H : Heap) (ps : Array Tmp) (as bd : Code) (Jn : Heap → Prop) (Φ : Exit → S2 → Prop) (x : Exit) (s2 : S2) : Prop :=
  ∃ H2 X, s2.H = loopH .busy H2 T ps as bd ++ X ∧ H2.length = H0.length ∧
    (∀ (id : Nat) (b : Blk), H2[id]? = some (some b) → H[id]? = some (some b) ∨ BW (H0.length + 2) (some b) (some b)) ∧
    match x with
    | .normal => Jn H2
    | .ret | .exit _ | .goto _ => Φ x (headS n T (H2 ++ [some .defd, none]) (H0.length :: defs) none)
    | _ => False

theorem wpc_rangeIter2 {f : Operand} {ps : Array Tmp} {as bd : Code} {Φ : Exit → S2 → Prop} {n : Nat} {T : List V} {H0 : Heap} {defs : List Nat} {g : FuncId} {first caps : List V} {items : List (List V)} {K : Heap → Prop}
    (it : IterOf P G g first caps items K) (hn : n ≤ T.length) (hT : T.map V.strip = T) (hf : (headS n T H0 defs none).ev f = .fn (.func g) first caps) (hfn : fnOk P g)
    (J : Nat → Heap → Prop) (h0 : J 0 H0) (hlen : ∀ i H, J i H → H.length = H0.length)
    (hK : ∀ i H, J i H → K (loopH .ready H T ps as bd))
    (hps : ∀ x ∈ items, x.length = ps.size)
    (round : ∀ (i : Nat) (x : List V) (H : Heap), items[i]? = some x → J i H → H.length = H0.length → Scoped (loopH .ready H T ps as bd) →
      evCode2 P G as (fun ex s1 => ex = .normal ∧ s1.H[H.length + 1]? = some (some (.loop .ready none T ps as bd H.length)) ∧
          evCode2 P G bd (bodyΦ2 n T H0 defs H ps as bd (J (i + 1)) Φ) (s1.setH (s1.H.set (H.length + 1) (some (.loop .busy none T ps as bd H.length)))))
        (headS n (setParams ps.toList x T) (loopH .ready H T ps as bd) [] (some (H.length + 1))))
    (hfin : ∀ H, J items.length H → Φ .normal (headS n T (H ++ [some .defd, none]) (H0.length :: defs) none)) :
    WPc P G (.rangeFunc f ps as bd) (toΦ n Φ) (headS n T H0 defs none).st := by
  obtain ⟨fn, hfn1, hfn2, hfn3⟩ := hfn
  have hwf : ∀ H ds c, (headS n T H ds c).Wf := fun H ds c => ⟨hn, fun x hx => by cases hx⟩
  have hTs : (headS n T H0 defs none).st.tmps.map V.strip = T := hT
  have hΦ : ∀ ex H ds, Φ ex (headS n T H ds none) → toΦ n Φ ex { (headS n T H0 defs none).st with tmps := T, H := H, defs := ds } := fun ex H ds h => ⟨headS n T H ds none, rfl, hwf _ _ _, rfl, h⟩
  have hps' : ∀ (ps : List Tmp) (x T : List V), (setParams ps x T).length = T.length := by
    intro ps
    induction ps with
    | nil => intro x T; cases x <;> rfl
    | cons p ps ih =>
      intro x T
      cases x with
      | nil => rfl
      | cons a x => simp [setParams, ih]
  refine wpc_rangeIterW it rfl ((S2.ev_eq (hwf _ _ _) f).trans hf) hfn1 hfn2 hfn3 J h0 hlen (by rw [hTs]; exact hK) hps ?_ ?_
  · rw [hTs]
    intro i x H hx hJ hl hs
    have hwr : (headS n (setParams ps.toList x T) (loopH .ready H T ps as bd) [] (some (H.length + 1))).Wf := ⟨by show n ≤ (setParams ps.toList x T).length; rw [hps']; exact hn, fun x hx => by cases hx⟩
    refine (evCode2_sound as n _ _ hwr rfl (round i x H hx hJ hl hs)).mono ?_
    rintro ex σ1 ⟨s1, rfl, hw1, hn1, rfl, h2, h3⟩
    refine ⟨rfl, h2, ?_⟩
    have hset : ({ s1.st with H := s1.st.H.set (H.length + 1) (some (.loop .busy none T ps as bd H.length)) } : St) = (s1.setH (s1.H.set (H.length + 1) (some (.loop .busy none T ps as bd H.length)))).st := by
      rw [S2.setH_eq]; rfl
    rw [hset]
    refine (evCode2_sound bd n _ _ (by rw [S2.setH_eq]; exact ⟨hw1.n, hw1.d⟩) (by rw [S2.setH_eq]; exact hn1) h3).mono ?_
    rintro ex σ2 ⟨s2, rfl, hw2, hn2, H2, X, h4, h5, h6, h7⟩
    refine ⟨H2, X, by rw [hTs]; exact h4, h5, h6, ?_⟩
    rw [hTs]
    cases ex with
    | normal => exact h7
    | ret => exact hΦ _ _ _ h7
    | exit j => exact hΦ _ _ _ h7
    | goto l => exact hΦ _ _ _ h7
    | panic c => exact h7
    | outgrown => exact h7
  · intro H hJ
    rw [hTs]
    exact hΦ _ _ _ (hfin H hJ)

/-- What leaves the heap as it is, leaves a greater one as it is. -/
theorem Call2.frame' {f : FuncId} {args : List V} {H : Heap} {Ψ : V → Prop} (h : Call2 P G f args H fun r H' => H' = H ∧ Ψ r) (X : Heap) (hs : Scoped H) (ha : ∀ v ∈ args, VW H.length v v ∧ v.strip = v) (hX : ∀ c, heapCls X c = true → heapCls H c = false) :
    Call2 P G f args (H ++ X) fun r H' => H' = H ++ X ∧ Ψ r :=
  (Call2.frame X hs ha hX (h.mono fun r H' ⟨h1, h2⟩ => ⟨by rw [h1], (⟨h1, h2⟩ : H' = H ∧ Ψ r)⟩)).mono fun r H'' ⟨H', h1, _, _, h2, h3⟩ => ⟨by rw [h1, h2], h3⟩

/-- A result that says less. -/
theorem StCall.weakR {f : FuncId} {args : List V} {H : Heap} {Ψ : V → Heap → Prop} (h : StCall P G f args H fun r H' => ∃ r', VW H'.length r r' ∧ Ψ r' H') : StCall P G f args H Ψ := by
  intro w e us hR hargs
  refine CallsIn.mono (h w e us hR hargs) ?_
  rintro en w' ⟨v, r, H', e', rfl, ⟨r', hr, hΨ⟩, hR', hv, hx⟩
  refine ⟨v, r', H', e', rfl, hΨ, hR', ?_, hx⟩
  have := hr.repF (e := e') (by rw [hR'.len]; exact Nat.le_refl _) hv
  have he : e'.cutTo H'.length = e' := by
    rw [← hR'.len]
    rfl
  rwa [he] at this

theorem Call2.weakR {f : FuncId} {args : List V} {H : Heap} {Ψ : V → Heap → Prop} (h : Call2 P G f args H fun r H' => ∃ r', VW H'.length r r' ∧ Ψ r' H') : Call2 P G f args H Ψ := ⟨h.1, h.2.weakR⟩

/-! ### draws -/
def evQ2 (P : Program) (G : Nat → Option (List V)) (o : Oper) (s : S2) (K : V → Prop) : Prop :=
  match o.op with
  | .call { callee := .value f, args, .. } => match s.ev f with
    | .fn (.func g) a b => ∃ u, Call2 P G g ((a ++ (args.toList.map s.ev) ++ b).map V.strip) s.H (fun r H' => H' = s.H ∧ r = u) ∧ K u
    | _ => False
  | op => match quiet op with
    | true => evOp2 P G o s fun v _ => K v
    | false => False

/-- A value, its spare places given up; most have none. -/
def demK (H : Heap) (v : V) (k : V → Prop) : Prop :=
  match v with
  | .im x => k (.im x)
  | .str l => k (.str l)
  | .ptr i o => k (.ptr i o)
  | .rp cs => k (.rp cs)
  | .dat es rows .no => k (.dat es rows .no)
  | .dat es rows .tight => k (.dat es rows .tight)
  | .tup vs => k (.tup vs)
  | .agg vs => k (.agg vs)
  | .fn f a b => k (.fn f a b)
  | .mp i => k (.mp i)
  | .bad => k .bad
  | v => k (V.demote (heapCls H) v)
theorem demK_eq {H : Heap} {v : V} {k : V → Prop} : demK H v k = k (V.demote (heapCls H) v) := by
  unfold demK
  split <;> rfl

def evQs2 (P : Program) (G : Nat → Option (List V)) (all : List Oper) : List Oper → S2 → (S2 → Prop) → Prop
  | [], s, k => k s
  | o :: rest, s, k =>
    match o.guard with
    | none => evQ2 P G o s fun v => demK s.H v fun v => put2 s o.dst v fun s' => evQs2 P G all rest s' k
    | some (j, want) => match (all[j]?).bind (·.dst) with
      | none => False
      | some d => match look s.upd s.base d with
        | .im (.bool b) => match want with
          | true => br b (evQ2 P G o (shadow s d true) fun v => demK s.H v fun v => put2 (shadow s d true) o.dst v fun s' => evQs2 P G all rest s' k) (put2 (shadow s d false) o.dst (.tup []) fun s' => evQs2 P G all rest s' k)
          | false => br b (put2 (shadow s d true) o.dst (.tup []) fun s' => evQs2 P G all rest s' k) (evQ2 P G o (shadow s d false) fun v => demK s.H v fun v => put2 (shadow s d false) o.dst v fun s' => evQs2 P G all rest s' k)
        | .tup [] => put2 s o.dst (.tup []) fun s' => evQs2 P G all rest s' k
        | _ => False

theorem evQ2_imp {o : Oper} {s : S2} {K : V → Prop} (hw : s.Wf) (h : evQ2 P G o s K) : evQ P G o s.st K := by
  have hev : ∀ x, s.st.ev x = s.ev x := fun x => S2.ev_eq hw x
  have hmap : ∀ l : List Operand, l.map s.st.ev = l.map s.ev := fun l => List.map_congr_left fun x _ => hev x
  unfold evQ2 at h
  unfold evQ
  split at h
  · rename_i f args ts ho
    simp only [ho]
    rw [hev]
    split at h
    · rename_i g a b hf
      obtain ⟨u, h1, h2⟩ := h
      simp only [hf]
      refine ⟨h1.1, u, ?_, h2⟩
      rw [hmap]
      exact h1.2
    · exact h.elim
  · rename_i hne
    split at h
    · rename_i hq
      have main : quiet o.op = true ∧ evOp P G o s.st fun v τ => τ = s.st ∧ K v :=
        ⟨hq, evOp2_core hw (fun v hv => ⟨rfl, hv⟩) (fun hq' => by rw [hq] at hq'; cases hq') h⟩
      split
      · rename_i f args ts ho
        exact absurd ho (hne f args ts)
      · exact main
    · exact h.elim

theorem evQ_mono {o : Oper} {σ : St} {K K' : V → Prop} (hm : ∀ v, K v → K' v) (h : evQ P G o σ K) : evQ P G o σ K' := by
  unfold evQ at *
  split at h
  · split at h
    · obtain ⟨h1, u, h2, h3⟩ := h
      exact ⟨h1, u, h2, hm _ h3⟩
    · exact h.elim
  · obtain ⟨hq, h⟩ := h
    obtain ⟨u, h1, h2⟩ := evQ_quiet hq K h
    exact ⟨hq, h2 σ ⟨rfl, fun _ _ => rfl⟩ K' (hm _ h1)⟩

theorem evQs2_imp {all : List Oper} {k : S2 → Prop} {K : St → Prop} (n : Nat) (hK : ∀ s' : S2, s'.Wf → s'.n = n → k s' → K s'.st) : ∀ (rest : List Oper) (s : S2), s.Wf → s.n = n → evQs2 P G all rest s k → evQs P G all rest s.st K := by
  intro rest
  induction rest with
  | nil => intro s hw hn h; exact hK s hw hn h
  | cons o rest ih =>
    intro s hw hn h
    have run : ∀ (s : S2) (H : Heap), H = s.H → s.Wf → s.n = n → evQ2 P G o s (fun v => demK H v fun v => put2 s o.dst v fun s' => evQs2 P G all rest s' k) → evQ P G o s.st (fun v => evQs P G all rest (s.st.put o.dst (V.demote (heapCls s.st.H) v)) K) := by
      intro s H hH hw hn h
      subst hH
      refine evQ_mono (fun v hv => ?_) (evQ2_imp hw h)
      rw [demK_eq] at hv
      obtain ⟨s'', h1, h2, h3, h4⟩ := put2_imp hw hv
      have := ih s'' h2 (h3.trans hn) h4
      rw [h1] at this
      exact this
    have skip : ∀ s : S2, s.Wf → s.n = n → put2 s o.dst (.tup []) (fun s' => evQs2 P G all rest s' k) → evQs P G all rest (s.st.put o.dst (.tup [])) K := by
      intro s hw hn h
      obtain ⟨s'', h1, h2, h3, h4⟩ := put2_imp hw h
      rw [← h1]
      exact ih s'' h2 (h3.trans hn) h4
    simp only [evQs2] at h
    simp only [evQs]
    cases hg : o.guard with
    | none =>
      rw [hg] at h
      exact run s s.H rfl hw hn h
    | some g =>
      obtain ⟨j, want⟩ := g
      rw [hg] at h
      simp only at h ⊢
      split at h
      · exact h.elim
      · rename_i d hd
        split at h
        · rename_i b hl
          rw [yieldedV_look hw hd (by simp) hl]
          simp only
          have hH : ∀ b, s.H = (shadow s d b).H := fun b => by rw [shadow_eq]
          have hnn : ∀ b, (shadow s d b).n = n := fun b => by rw [shadow_eq]; exact hn
          cases want with
          | true =>
            simp only [br_iff] at h
            refine ⟨fun hb => ?_, fun hb => ?_⟩
            · subst hb
              obtain ⟨h1, h2⟩ := shadow_st hw hl
              have := run _ _ (hH true) h2 (hnn _) (h.1 rfl)
              rwa [h1] at this
            · have hb' : b = false := by simpa using hb
              subst hb'
              obtain ⟨h1, h2⟩ := shadow_st hw hl
              have := skip _ h2 (hnn _) (h.2 rfl)
              rwa [h1] at this
          | false =>
            simp only [br_iff] at h
            refine ⟨fun hb => ?_, fun hb => ?_⟩
            · subst hb
              obtain ⟨h1, h2⟩ := shadow_st hw hl
              have := run _ _ (hH false) h2 (hnn _) (h.2 rfl)
              rwa [h1] at this
            · have hb' : b = true := by simpa using hb
              subst hb'
              obtain ⟨h1, h2⟩ := shadow_st hw hl
              have := skip _ h2 (hnn _) (h.1 rfl)
              rwa [h1] at this
        · rename_i hl
          rw [yieldedV_look hw hd (by simp) hl]
          exact skip s hw hn h
        · exact h.elim

/-- A region that draws its order. -/
theorem wpc_draw2 {id : Nat} {ops : Array Oper} {Φ : Exit → S2 → Prop} {s : S2} (q : Nat) (hm : P.follows .mixedOrders = true) (hql : q ≤ ops.toList.length) (hok : drawOk ops.toList q = true) (hw : s.Wf)
    (h : evQs2 P G ops.toList (ops.toList.take q) (s.dem (heapCls s.H)) fun s' => evOps2 P G ops.toList (ops.toList.drop q) s' (Φ .normal)) : WPc P G (.region id ops true) (toΦ s.n Φ) s.st := by
  refine wpc_draw q hm hql hok ?_
  have hd := S2.dem_st (s := s) (heapCls s.H)
  have hn : (s.dem (heapCls s.H)).n = s.n := by unfold S2.dem; split <;> rfl
  have := evQs2_imp (K := fun σ' => evOps P G ops.toList (ops.toList.drop q) σ' (toΦ s.n Φ .normal)) s.n (fun s' hw' hn' h' =>
    evOps2_imp s.n (fun s'' hw'' hn'' h'' => ⟨s'', rfl, hw'', hn'', h''⟩) _ s' hw' hn' h') _ _ (S2.dem_wf hw _) hn h
  rw [hd] at this
  exact this

end Go.Abs
