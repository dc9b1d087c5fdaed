/- The walk over abstract states. -/
import Derived.Test.YtdpbkooiibaaaaaDoorAbs2
import Derived.ProofKit
import Derived.OpenShut
import Derived.ShutString
import Derived.Carry
import Derived.Handed

/-! Ev5 -/
/- Ranges over iterators and draws, laid out so that reduction alone works them out. -/
namespace Go.Abs
open Go.RowKit

variable {P : Program} {G : Nat → Option (List V)}

theorem Call2.frame {f : FuncId} {args : List V} {H : Heap} {Ψ : V → Heap → Prop} (X : Heap) (hs : Scoped H) (ha : ∀ v ∈ args, VW H.length v v ∧ v.strip = v) (hX : ∀ c, heapCls X c = true → heapCls H c = false)
    (h : Call2 P G f args H fun r H' => H'.length = H.length ∧ Ψ r H') : Call2 P G f args (H ++ X) fun r H'' => ∃ H', H'' = H' ++ X ∧ H'.length = H.length ∧ Scoped H' ∧ Ψ r H' :=
  ⟨h.1, h.2.frame X hs ha hX⟩

theorem Call2.inScope {f : FuncId} {args : List V} {H : Heap} {Ψ : V → Heap → Prop} (hf : fnOk P f) (h : Scoped H → Call2 P G f args H Ψ) : Call2 P G f args H Ψ := ⟨hf, StCall.inScope fun hs => (h hs).2⟩

theorem WPc.weak {c : Code} {Φ : Exit → St → Prop} {σ σ0 : St} (hw : Weak G σ σ0) (hl : σ.H.length ≤ σ0.H.length) (h : WPc P G c Φ σ0) : WPc P G c Φ σ := by
  intro a w e hst
  obtain ⟨e0, hst0, hx0⟩ := hw.2 a w e hst
  have hx := hx0 _ _ _ hl (.refl _ _ _)
  have := h a w e0 hst0
  rw [cur_same hst hw.1 hx] at this
  refine wpIn_mono this ?_
  rintro x a2 w2 ⟨σ2, e2, hΦ, hc2, hst2, hx2⟩
  exact ⟨σ2, e2, hΦ, hc2.trans hw.1, hst2, hx.trans hx2⟩

/-- What a round's body owes. -/
def bodyΦ2 (n : Nat) (T : List V) (H0 : Heap) (defs : List Nat) (H : Heap) (ps : Array Tmp) (as bd : Code) (Jn : Heap → Prop) (Φ : Exit → S2 → Prop) (x : Exit) (s2 : S2) : Prop :=
  ∃ H2 X, s2.H = loopH .busy H2 T ps as bd ++ X ∧ H2.length = H0.length ∧
    (∀ (id : Nat) (b : Blk), H2[id]? = some (some b) → H[id]? = some (some b) ∨ BW (H0.length + 2) (some b) (some b)) ∧
    match x with
    | .normal => Jn H2
    | .ret | .exit _ | .goto _ => Φ x (headS n T (H2 ++ [some .defd, none]) (H0.length :: defs) none)
    | _ => False

theorem wpc_rangeIter2 {f : Operand} {ps : Array Tmp} {as bd : Code} {Φ : Exit → S2 → Prop} {n : Nat} {T : List V} {H0 : Heap} {defs : List Nat} {g : FuncId} {first caps : List V} {items : List (List V)} {K : Heap → Prop}
    (it : IterOf P G g first caps items K) (hn : n ≤ T.length) (hT : T.map V.strip = T) (hf : (headS n T H0 defs none).ev f = .fn (.func g) first caps) (hfn : fnOk P g)
    (J : Nat → Heap → Prop) (h0 : J 0 H0) (hlen : ∀ i H, J i H → H.length = H0.length)
    (hK : ∀ i H, J i H → K (loopH .ready H T ps as bd))
    (hps : ∀ x ∈ items, x.length = ps.size)
    (round : ∀ (i : Nat) (x : List V) (H : Heap), items[i]? = some x → J i H → H.length = H0.length → Scoped (loopH .ready H T ps as bd) →
      evCode2 P G as (fun ex s1 => ex = .normal ∧ s1.H[H.length + 1]? = some (some (.loop .ready none T ps as bd H.length)) ∧
          evCode2 P G bd (bodyΦ2 n T H0 defs H ps as bd (J (i + 1)) Φ) (s1.setH (s1.H.set (H.length + 1) (some (.loop .busy none T ps as bd H.length)))))
        (headS n (setParams ps.toList x T) (loopH .ready H T ps as bd) [] (some (H.length + 1))))
    (hfin : ∀ H, J items.length H → Φ .normal (headS n T (H ++ [some .defd, none]) (H0.length :: defs) none)) :
    WPc P G (.rangeFunc f ps as bd) (toΦ n Φ) (headS n T H0 defs none).st := by
  obtain ⟨fn, hfn1, hfn2, hfn3⟩ := hfn
  have hwf : ∀ H ds c, (headS n T H ds c).Wf := fun H ds c => ⟨hn, fun x hx => by cases hx⟩
  have hTs : (headS n T H0 defs none).st.tmps.map V.strip = T := hT
  have hΦ : ∀ ex H ds, Φ ex (headS n T H ds none) → toΦ n Φ ex { (headS n T H0 defs none).st with tmps := T, H := H, defs := ds } := fun ex H ds h => ⟨headS n T H ds none, rfl, hwf _ _ _, rfl, h⟩
  have hps' : ∀ (ps : List Tmp) (x T : List V), (setParams ps x T).length = T.length := by
    intro ps
    induction ps with
    | nil => intro x T; cases x <;> rfl
    | cons p ps ih =>
      intro x T
      cases x with
      | nil => rfl
      | cons a x => simp [setParams, ih]
  refine wpc_rangeIterW it rfl ((S2.ev_eq (hwf _ _ _) f).trans hf) hfn1 hfn2 hfn3 J h0 hlen (by rw [hTs]; exact hK) hps ?_ ?_
  · rw [hTs]
    intro i x H hx hJ hl hs
    have hwr : (headS n (setParams ps.toList x T) (loopH .ready H T ps as bd) [] (some (H.length + 1))).Wf := ⟨by show n ≤ (setParams ps.toList x T).length; rw [hps']; exact hn, fun x hx => by cases hx⟩
    refine (evCode2_sound as n _ _ hwr rfl (round i x H hx hJ hl hs)).mono ?_
    rintro ex σ1 ⟨s1, rfl, hw1, hn1, rfl, h2, h3⟩
    refine ⟨rfl, h2, ?_⟩
    have hset : ({ s1.st with H := s1.st.H.set (H.length + 1) (some (.loop .busy none T ps as bd H.length)) } : St) = (s1.setH (s1.H.set (H.length + 1) (some (.loop .busy none T ps as bd H.length)))).st := by
      rw [S2.setH_eq]; rfl
    rw [hset]
    refine (evCode2_sound bd n _ _ (by rw [S2.setH_eq]; exact ⟨hw1.n, hw1.d⟩) (by rw [S2.setH_eq]; exact hn1) h3).mono ?_
    rintro ex σ2 ⟨s2, rfl, hw2, hn2, H2, X, h4, h5, h6, h7⟩
    refine ⟨H2, X, by rw [hTs]; exact h4, h5, h6, ?_⟩
    rw [hTs]
    cases ex with
    | normal => exact h7
    | ret => exact hΦ _ _ _ h7
    | exit j => exact hΦ _ _ _ h7
    | goto l => exact hΦ _ _ _ h7
    | panic c => exact h7
    | outgrown => exact h7
  · intro H hJ
    rw [hTs]
    exact hΦ _ _ _ (hfin H hJ)

/-- What leaves the heap as it is, leaves a greater one as it is. -/
theorem Call2.frame' {f : FuncId} {args : List V} {H : Heap} {Ψ : V → Prop} (h : Call2 P G f args H fun r H' => H' = H ∧ Ψ r) (X : Heap) (hs : Scoped H) (ha : ∀ v ∈ args, VW H.length v v ∧ v.strip = v) (hX : ∀ c, heapCls X c = true → heapCls H c = false) :
    Call2 P G f args (H ++ X) fun r H' => H' = H ++ X ∧ Ψ r :=
  (Call2.frame X hs ha hX (h.mono fun r H' ⟨h1, h2⟩ => ⟨by rw [h1], (⟨h1, h2⟩ : H' = H ∧ Ψ r)⟩)).mono fun r H'' ⟨H', h1, _, _, h2, h3⟩ => ⟨by rw [h1, h2], h3⟩

/-- A result that says less. -/
theorem StCall.weakR {f : FuncId} {args : List V} {H : Heap} {Ψ : V → Heap → Prop} (h : StCall P G f args H fun r H' => ∃ r', VW H'.length r r' ∧ Ψ r' H') : StCall P G f args H Ψ := by
  intro w e us hR hargs
  refine CallsIn.mono (h w e us hR hargs) ?_
  rintro en w' ⟨v, r, H', e', rfl, ⟨r', hr, hΨ⟩, hR', hv, hx⟩
  refine ⟨v, r', H', e', rfl, hΨ, hR', ?_, hx⟩
  have := hr.repF (e := e') (by rw [hR'.len]; exact Nat.le_refl _) hv
  have he : e'.cutTo H'.length = e' := by
    rw [← hR'.len]
    rfl
  rwa [he] at this

theorem Call2.weakR {f : FuncId} {args : List V} {H : Heap} {Ψ : V → Heap → Prop} (h : Call2 P G f args H fun r H' => ∃ r', VW H'.length r r' ∧ Ψ r' H') : Call2 P G f args H Ψ := ⟨h.1, h.2.weakR⟩

/-! ### draws -/
def evAppT2 (P : Program) (t t' : TypeId) (d : Nat) (x y : V) (K : V → Prop) : Prop :=
  match slOf P t with
  | some (el, sz, bytes) => match x, y with
    | .dat es rows .tight, .dat es' ys _ =>
      grd (notInt P t' && Nat.ble 1 sz && (match zeroOf P el with | some z => Nat.beq z.length sz | none => false)) (
      (rows = [] ∨ es = sz) ∧ (ys = [] ∨ es' = sz) ∧ (∀ r ∈ ys, r.all V.solid = true) ∧ (rows.length + ys.length) * bytes ≤ maxBytes ∧ rows.length + ys.length ≤ maxBytes ∧ K (.dat sz (rows ++ ys) (.cls d)))
    | _, _ => False
  | none => False

theorem evAppT2_imp {t t' : TypeId} {d : Nat} {x y : V} {K : V → Prop} (h : evAppT2 P t t' d x y K) : evAppT P t t' d x y K := by
  unfold evAppT2 at h
  unfold evAppT
  split at h
  · rename_i el sz bytes hs
    simp only [hs]
    split at h
    · rename_i es rows es' ys fl
      rw [grd_iff, Bool.and_eq_true, Bool.and_eq_true, Nat.ble_eq] at h
      obtain ⟨⟨⟨h1, h2⟩, h3⟩, h4, h5, h6, h7, h8, h9⟩ := h
      have hz : (zeroOf P el).map List.length = some sz := by
        split at h3
        · rename_i z hz
          rw [hz]
          simpa [Nat.beq_eq] using h3
        · cases h3
      exact ⟨h1, h2, hz, h4, h5, h6, h7, h8, h9⟩
    · exact h.elim
  · exact h.elim

def evQ2 (P : Program) (G : Nat → Option (List V)) (o : Oper) (s : S2) (K : V → Prop) : Prop :=
  match o.op with
  | .call { callee := .value f, args, .. } => match s.ev f with
    | .fn (.func g) a b => ∃ u, (∀ X, (∀ k, heapCls X k = false) → Call2 P G g ((a ++ (args.toList.map s.ev) ++ b).map V.strip) (s.H ++ X) (fun r H' => H' = s.H ++ X ∧ r = u)) ∧ K u
    | _ => False
  | .call { callee := .builtin .append, args, argTypes } => match args.toList, argTypes.toList with
    | [x, y], [t, t'] => evAppT2 P t t' (o.dst.getD 0) (s.ev x) (s.ev y) K
    | _, _ => False
  | op => match quiet op with
    | true => evOp2 P G o s fun v _ => K v
    | false => False

/-- A value, its spare places given up; most have none. -/
def demK (all : List Oper) (H : Heap) (v : V) (k : V → Prop) : Prop :=
  match v with
  | .im x => k (.im x)
  | .str l => k (.str l)
  | .ptr i o => k (.ptr i o)
  | .rp cs => k (.rp cs)
  | .dat es rows .no => k (.dat es rows .no)
  | .dat es rows .tight => k (.dat es rows .tight)
  | .tup vs => k (.tup vs)
  | .agg vs => k (.agg vs)
  | .fn f a b => k (.fn f a b)
  | .mp i => k (.mp i)
  | .arr i e l => k (.arr i e l)
  | .yld i => k (.yld i)
  | .bad => k .bad
  | v => k (V.demote (dq all H) v)
theorem demK_eq {all : List Oper} {H : Heap} {v : V} {k : V → Prop} : demK all H v k = k (V.demote (dq all H) v) := by
  unfold demK
  split <;> rfl

noncomputable def evQs2 (P : Program) (G : Nat → Option (List V)) (all : List Oper) (l : List Oper) : S2 → (S2 → Prop) → Prop :=
  List.rec (motive := fun _ => S2 → (S2 → Prop) → Prop) (fun s k => k s) (fun o _ ih s k =>
    match o.guard with
    | none => evQ2 P G o s fun v => demK all s.H v fun v => put2 s o.dst v fun s' => ih s' k
    | some (j, want) => match (all[j]?).bind (·.dst) with
      | none => False
      | some d => match look s.upd s.base d with
        | .im (.bool b) => match want with
          | true => br b (evQ2 P G o (shadow s d true) fun v => demK all s.H v fun v => put2 (shadow s d true) o.dst v fun s' => ih s' k) (put2 (shadow s d false) o.dst (.tup []) fun s' => ih s' k)
          | false => br b (put2 (shadow s d true) o.dst (.tup []) fun s' => ih s' k) (evQ2 P G o (shadow s d false) fun v => demK all s.H v fun v => put2 (shadow s d false) o.dst v fun s' => ih s' k)
        | .tup [] => put2 s o.dst (.tup []) fun s' => ih s' k
        | _ => False) l

theorem evQs2_cons (all : List Oper) (o : Oper) (rest : List Oper) (s : S2) (k : S2 → Prop) : evQs2 P G all (o :: rest) s k =
    match o.guard with
    | none => evQ2 P G o s fun v => demK all s.H v fun v => put2 s o.dst v fun s' => evQs2 P G all rest s' k
    | some (j, want) => match (all[j]?).bind (·.dst) with
      | none => False
      | some d => match look s.upd s.base d with
        | .im (.bool b) => match want with
          | true => br b (evQ2 P G o (shadow s d true) fun v => demK all s.H v fun v => put2 (shadow s d true) o.dst v fun s' => evQs2 P G all rest s' k) (put2 (shadow s d false) o.dst (.tup []) fun s' => evQs2 P G all rest s' k)
          | false => br b (put2 (shadow s d true) o.dst (.tup []) fun s' => evQs2 P G all rest s' k) (evQ2 P G o (shadow s d false) fun v => demK all s.H v fun v => put2 (shadow s d false) o.dst v fun s' => evQs2 P G all rest s' k)
        | .tup [] => put2 s o.dst (.tup []) fun s' => evQs2 P G all rest s' k
        | _ => False := rfl

theorem evQ2_imp {o : Oper} {s : S2} {K : V → Prop} (hw : s.Wf) (h : evQ2 P G o s K) : evQ P G o s.st K := by
  have hev : ∀ x, s.st.ev x = s.ev x := fun x => S2.ev_eq hw x
  have hmap : ∀ l : List Operand, l.map s.st.ev = l.map s.ev := fun l => List.map_congr_left fun x _ => hev x
  unfold evQ2 at h
  unfold evQ
  split at h
  · rename_i f args ts ho
    simp only [ho]
    rw [hev]
    split at h
    · rename_i g a b hf
      obtain ⟨u, h1, h2⟩ := h
      simp only [hf]
      refine ⟨(h1 [] fun _ => rfl).1, u, ?_, h2⟩
      intro X hX
      rw [hmap]
      exact (h1 X hX).2
    · exact h.elim
  · rename_i args ts ho
    simp only [ho]
    split at h
    · rename_i x y t t' ha ht
      simp only [ha, ht, hev]
      exact evAppT2_imp h
    · exact h.elim
  · rename_i hne hne2
    split at h
    · rename_i hq
      have main : quiet o.op = true ∧ evOp P G o s.st fun v τ => τ = s.st ∧ K v :=
        ⟨hq, evOp2_core hw (fun v hv => ⟨rfl, hv⟩) (fun hq' => by rw [hq] at hq'; cases hq') h⟩
      split
      · rename_i f args ts ho
        exact absurd ho (hne f args ts)
      · rename_i args ts ho
        exact absurd ho (hne2 args ts)
      · exact main
    · exact h.elim

theorem evQ_mono {o : Oper} {σ : St} {K K' : V → Prop} (hm : ∀ v, K v → K' v) (h : evQ P G o σ K) : evQ P G o σ K' := by
  unfold evQ at *
  split at h
  · split at h
    · obtain ⟨h1, u, h2, h3⟩ := h
      exact ⟨h1, u, h2, hm _ h3⟩
    · exact h.elim
  · split at h
    · obtain ⟨u, hK, hu⟩ := evAppT_ex h
      exact hu _ (hm _ hK)
    · exact h.elim
  · obtain ⟨hq, h⟩ := h
    obtain ⟨u, h1, h2⟩ := evQ_quiet hq K h
    exact ⟨hq, h2 σ ⟨.inr PreH.rfl', fun _ _ => rfl⟩ K' (hm _ h1)⟩

theorem evQs2_imp {all : List Oper} {k : S2 → Prop} {K : St → Prop} (n : Nat) (hK : ∀ s' : S2, s'.Wf → s'.n = n → k s' → K s'.st) : ∀ (rest : List Oper) (s : S2), s.Wf → s.n = n → evQs2 P G all rest s k → evQs P G all rest s.st K := by
  intro rest
  induction rest with
  | nil => intro s hw hn h; exact hK s hw hn h
  | cons o rest ih =>
    intro s hw hn h
    have run : ∀ (s : S2) (H : Heap), H = s.H → s.Wf → s.n = n → evQ2 P G o s (fun v => demK all H v fun v => put2 s o.dst v fun s' => evQs2 P G all rest s' k) → evQ P G o s.st (fun v => evQs P G all rest (s.st.put o.dst (V.demote (dq all s.st.H) v)) K) := by
      intro s H hH hw hn h
      subst hH
      refine evQ_mono (fun v hv => ?_) (evQ2_imp hw h)
      rw [demK_eq] at hv
      obtain ⟨s'', h1, h2, h3, h4⟩ := put2_imp hw hv
      have := ih s'' h2 (h3.trans hn) h4
      rw [h1] at this
      exact this
    have skip : ∀ s : S2, s.Wf → s.n = n → put2 s o.dst (.tup []) (fun s' => evQs2 P G all rest s' k) → evQs P G all rest (s.st.put o.dst (.tup [])) K := by
      intro s hw hn h
      obtain ⟨s'', h1, h2, h3, h4⟩ := put2_imp hw h
      rw [← h1]
      exact ih s'' h2 (h3.trans hn) h4
    rw [evQs2_cons] at h
    simp only [evQs]
    cases hg : o.guard with
    | none =>
      rw [hg] at h
      exact run s s.H rfl hw hn h
    | some g =>
      obtain ⟨j, want⟩ := g
      rw [hg] at h
      simp only at h ⊢
      split at h
      · exact h.elim
      · rename_i d hd
        split at h
        · rename_i b hl
          rw [yieldedV_look hw hd (by simp) hl]
          simp only
          have hH : ∀ b, s.H = (shadow s d b).H := fun b => by rw [shadow_eq]
          have hnn : ∀ b, (shadow s d b).n = n := fun b => by rw [shadow_eq]; exact hn
          cases want with
          | true =>
            simp only [br_iff] at h
            refine ⟨fun hb => ?_, fun hb => ?_⟩
            · subst hb
              obtain ⟨h1, h2⟩ := shadow_st hw hl
              have := run _ _ (hH true) h2 (hnn _) (h.1 rfl)
              rwa [h1] at this
            · have hb' : b = false := by simpa using hb
              subst hb'
              obtain ⟨h1, h2⟩ := shadow_st hw hl
              have := skip _ h2 (hnn _) (h.2 rfl)
              rwa [h1] at this
          | false =>
            simp only [br_iff] at h
            refine ⟨fun hb => ?_, fun hb => ?_⟩
            · subst hb
              obtain ⟨h1, h2⟩ := shadow_st hw hl
              have := run _ _ (hH false) h2 (hnn _) (h.2 rfl)
              rwa [h1] at this
            · have hb' : b = true := by simpa using hb
              subst hb'
              obtain ⟨h1, h2⟩ := shadow_st hw hl
              have := skip _ h2 (hnn _) (h.1 rfl)
              rwa [h1] at this
        · rename_i hl
          rw [yieldedV_look hw hd (by simp) hl]
          exact skip s hw hn h
        · exact h.elim

/-- A region that draws its order. -/
theorem wpc_draw2 {id : Nat} {ops : Array Oper} {Φ : Exit → S2 → Prop} {s : S2} (q : Nat) (hm : P.follows .mixedOrders = true) (hql : q ≤ ops.toList.length) (hok : drawOk ops.toList q = true) (hw : s.Wf)
    (h : evQs2 P G ops.toList (ops.toList.take q) (s.dem (dq ops.toList s.H)) fun s' => evOps2 P G ops.toList (ops.toList.drop q) s' (Φ .normal)) : WPc P G (.region id ops true) (toΦ s.n Φ) s.st := by
  refine wpc_draw q hm hql hok ?_
  have hd := S2.dem_st (s := s) (dq ops.toList s.H)
  have hn : (s.dem (dq ops.toList s.H)).n = s.n := by unfold S2.dem; split <;> rfl
  have := evQs2_imp (K := fun σ' => evOps P G ops.toList (ops.toList.drop q) σ' (toΦ s.n Φ .normal)) s.n (fun s' hw' hn' h' =>
    evOps2_imp s.n (fun s'' hw'' hn'' h'' => ⟨s'', rfl, hw'', hn'', h''⟩) _ s' hw' hn' h') _ _ (S2.dem_wf hw _) hn h
  rw [hd] at this
  exact this

end Go.Abs

/-! Unroll -/
/- Loops, round by round. -/
namespace Go.Abs
open Go.RowKit

variable {P : Program} {G : Nat → Option (List V)}

theorem stepR_scope {b : Frame} {a : Act} {k : List Item} {cs : List Frame} {w : World} {c : Code} : step P (lone (b.atR a (.code (.scope c) :: k)) cs w) = .next (lone (b.atR a (.code c :: .inScope c :: k)) cs w) :=
  step_lone_go (by simp [stepG, stepG.exec, Frame.atR])
theorem stepR_inScope {b : Frame} {a : Act} {k : List Item} {cs : List Frame} {w : World} {c : Code} : step P (lone (b.atR a (.inScope c :: k)) cs w) = .next (lone (b.atR a k) cs w) :=
  step_lone_go (by simp [stepG, stepG.exec, Frame.atR])

/-- A scope that no jump enters. -/
theorem wpIn_scope {F : Fence} {n : Nat} {c : Code} {Q : Exit → Act → World → Prop} {a : Act} {w : World} (h : c.wpIn F n P (fun e a w => match e with
    | .goto _ => False
    | e => Q e a w) a w) : (Code.scope c).wpIn F n P Q a w := by
  intro b k cs hro hb hr
  obtain ⟨e, a₁, w₁, hq, harr⟩ := h b (.inScope c :: k) cs hro hb hr
  cases e with
  | normal => exact ⟨_, a₁, w₁, hq, .of_steps (.one (fenced_calm hb hr rfl) stepR_scope) (StepsIn.trans harr (.one (fenced_calm hb hr rfl) stepR_inScope))⟩
  | exit id => exact ⟨.exit id, a₁, w₁, hq, .of_steps (.one (fenced_calm hb hr rfl) stepR_scope) ⟨fun k' hk => harr.1 k' (by simp [exitTo, hk]), fun hr' hk => harr.2 hr' (by simp [exitTo, hk])⟩⟩
  | goto l => exact hq.elim
  | ret => exact ⟨_, a₁, w₁, hq, .of_steps (.one (fenced_calm hb hr rfl) stepR_scope) harr⟩
  | panic ch => exact ⟨_, a₁, w₁, hq, .of_steps (.one (fenced_calm hb hr rfl) stepR_scope) harr⟩
  | outgrown => exact ⟨_, a₁, w₁, hq, .of_steps (.one (fenced_calm hb hr rfl) stepR_scope) harr⟩

/-- The same over states. -/
theorem wpc_scope2 {c : Code} {Φ : Exit → S2 → Prop} {s : S2} (hw : s.Wf) (h : evCode2 P G c (fun x s' => match x with
    | .goto _ => False
    | x => Φ x s') s) : WPc P G (.scope c) (toΦ s.n Φ) s.st := by
  intro a w e hst
  refine wpIn_scope (wpIn_mono (evCode2_sound c s.n _ s hw rfl h a w e hst) ?_)
  rintro x a1 w1 ⟨σ1, e1, ⟨s1, rfl, hw1, hn1, hΦ⟩, hrest⟩
  cases x with
  | goto l => exact hΦ.elim
  | _ => exact ⟨s1.st, e1, ⟨s1, rfl, hw1, hn1, hΦ⟩, hrest⟩

/-- The loop's body comes up once more. -/
def LpIn (F : Fence) (n : Nat) (P : Program) (c : Code) (Q : Exit → Act → World → Prop) (a : Act) (w : World) : Prop :=
  ∀ (b : Frame) (k : List Item) (cs : List Frame), b.roundOf = F.round → F.fn b.fn → F.room (cs.length + 1 + n) →
    ∃ e a' w', Q e a' w' ∧ ArrivesIn (Machine.fenced P F) P (lone (b.atR a (.code c :: .inLoop c :: k)) cs w) b k cs e a' w'

theorem lp_loop {F : Fence} {n : Nat} {c : Code} {Q : Exit → Act → World → Prop} {a : Act} {w : World} (h : LpIn F n P c Q a w) : (Code.loop c).wpIn F n P Q a w := by
  intro b k cs hro hb hr
  obtain ⟨e, a', w', hq, harr⟩ := h b k cs hro hb hr
  exact ⟨e, a', w', hq, .of_steps (.one (fenced_calm hb hr rfl) stepR_loop) harr⟩

theorem lp_round {F : Fence} {n : Nat} {c : Code} {Q : Exit → Act → World → Prop} {a : Act} {w : World} (h : c.wpIn F n P (Exit.then (fun a' w' => LpIn F n P c Q a' w') Q) a w) : LpIn F n P c Q a w := by
  intro b k cs hro hb hr
  obtain ⟨e, a₁, w₁, hq, harr⟩ := h b (.inLoop c :: k) cs hro hb hr
  cases e with
  | normal =>
    obtain ⟨e₂, a₂, w₂, hq₂, harr₂⟩ := hq b k cs hro hb hr
    exact ⟨e₂, a₂, w₂, hq₂, .of_steps (StepsIn.trans harr (.one (fenced_calm hb hr rfl) stepR_inLoop)) harr₂⟩
  | exit id => exact ⟨_, a₁, w₁, hq, .pass (x := .inLoop c) rfl (fun _ _ => .inl (by simp)) harr⟩
  | goto l => exact ⟨_, a₁, w₁, hq, .pass (x := .inLoop c) rfl (fun _ _ => .inl (by simp)) harr⟩
  | ret => exact ⟨_, a₁, w₁, hq, .pass (x := .inLoop c) rfl (fun _ _ => .inl (by simp)) harr⟩
  | panic ch => exact ⟨_, a₁, w₁, hq, .pass (x := .inLoop c) rfl (fun _ _ => .inl (by simp)) harr⟩
  | outgrown => exact ⟨_, a₁, w₁, hq, .pass (x := .inLoop c) rfl (fun _ _ => .inl (by simp)) harr⟩

/-- The same over states. -/
def Lp2 (P : Program) (G : Nat → Option (List V)) (c : Code) (n : Nat) (Φ : Exit → S2 → Prop) (s : S2) : Prop :=
  ∀ a w e, RSt G s.st a w e → LpIn (FW (s.st.cur.map e.ρ)) 0 P c (fun x a' w' => ∃ σ' e', toΦ n Φ x σ' ∧ σ'.cur = s.st.cur ∧ RSt G σ' a' w' e' ∧ Ext s.st.H w e σ'.H w' e') a w

theorem wpc_unroll {c : Code} {Φ : Exit → S2 → Prop} {s : S2} {n : Nat} (h : Lp2 P G c n Φ s) : WPc P G (.loop c) (toΦ n Φ) s.st := fun a w e hst => lp_loop (h a w e hst)

/-- One round. -/
theorem lp2_round {c : Code} {Φ : Exit → S2 → Prop} {s : S2} {n : Nat} (hw : s.Wf) (hn : s.n = n) (h : evCode2 P G c (fun x s' => match x with
      | .normal => s'.Wf → ∃ s2, Weak G s'.st s2.st ∧ s'.st.H.length ≤ s2.st.H.length ∧ Lp2 P G c n Φ s2
      | x => Φ x s') s) : Lp2 P G c n Φ s := by
  intro a w e hst
  refine lp_round (wpIn_mono (evCode2_sound c n _ s hw hn h a w e hst) ?_)
  rintro x a1 w1 ⟨σ1, e1, ⟨s1, rfl, hw1, hn1, hΦ⟩, hc1, hst1, hx1⟩
  cases x with
  | normal =>
    obtain ⟨s2, hwk, hlen, hlp⟩ := hΦ hw1
    obtain ⟨e2, hst2, hx2⟩ := hwk.2 a1 w1 e1 hst1
    have hx3 := hx2 _ _ _ (Nat.le_trans hx1.len hlen) hx1
    have := hlp a1 w1 e2 hst2
    intro b k cs hro hb hr
    have hcur : s2.st.cur.map e2.ρ = s.st.cur.map e.ρ := cur_same hst (hwk.1.trans hc1) hx3
    rw [hcur] at this
    obtain ⟨ex, a', w', ⟨σ', e', h1, h2, h3, h4⟩, harr⟩ := this b k cs hro hb hr
    exact ⟨ex, a', w', ⟨σ', e', h1, h2.trans (hwk.1.trans hc1), h3, hx3.trans h4⟩, harr⟩
  | _ => exact ⟨s1.st, e1, ⟨s1, rfl, hw1, hn1, hΦ⟩, hc1, hst1, hx1⟩

end Go.Abs

/-! Freeze -/
/- A block of one's own is given up: what it holds is read only from then on. -/
namespace Go.Abs
open Go.RowKit

variable {P : Program} {G : Nat → Option (List V)}

/-- A value in which a slice of the block stands as rows. -/
inductive Fz (id : Nat) (vs : List V) : V → V → Prop
  | same (v : V) : Fz id vs v v
  | arr (es len : Nat) (h : len * es ≤ vs.length) (hs : 1 ≤ es) : Fz id vs (.arr id es len) (.dat es (chunks es len vs) .no)
  | agg (cs cs' : List V) (hl : cs.length = cs'.length) (h : ∀ (i : Nat) (v v' : V), cs[i]? = some v → cs'[i]? = some v' → Fz id vs v v') : Fz id vs (.agg cs) (.agg cs')
  | tup (cs cs' : List V) (hl : cs.length = cs'.length) (h : ∀ (i : Nat) (v v' : V), cs[i]? = some v → cs'[i]? = some v' → Fz id vs v v') : Fz id vs (.tup cs) (.tup cs')

/-- The environment in which a block's beginning is read only. -/
def Env.froze (e : Env) (r n : Nat) : Env := { e with RO := fun b o => e.RO b o ∨ (b = r ∧ o < n) }

theorem Mono.froze (w : World) (e : Env) (r n : Nat) : Mono w e w (e.froze r n) := ⟨Nat.le_refl _, fun _ _ => rfl, fun _ _ h => ⟨.inl h, rfl⟩, fun _ _ _ h => h⟩

theorem Fz.rep {w : World} {e : Env} {id : Nat} {t : TypeId} {vs : List V} (hb : RepBlk w e (e.ρ id) (.cells t vs)) (hd : ∀ v ∈ vs, v.dataCell = true) {v v' : V} (h : Fz id vs v v') :
    ∀ {u : Value}, Rep w e v u → Rep w (e.froze (e.ρ id) vs.length) v' u := by
  induction h with
  | same v => exact fun hr => hr.mono (Mono.froze w e _ _)
  | arr es len hl hs =>
    intro u hr
    cases hr with
    | arr _ _ _ cap hid hcap =>
      cases hb with
      | cells _ _ cs hw hlen hrep =>
        have hcel : ∀ (j : Nat) (v : V), vs[j]? = some v → ∃ x, cs[j]? = some x ∧ cel w (e.ρ id) (0 + j) = some x ∧ Rep w e.pure v x := by
          intro j v hv
          have hj := (List.getElem?_eq_some_iff.1 hv).1
          have hjs : j < cs.size := by omega
          refine ⟨cs[j], by simp [hjs], ?_, ?_⟩
          · unfold cel World.cell?
            simp only [hw, Nat.zero_add]
            simp [hjs]
          · exact (hrep j v cs[j] hv (by simp [hjs])).1.toPure (hd v (List.mem_of_getElem? hv))
        have := Rep.dat (w := w) (e := e.froze (e.ρ id) vs.length) es (chunks es len vs) .no (e.ρ id) 0 cap (fun i j => (cs[i * es + j]?).getD undef)
          (chunks_row' len vs hl) (by rw [chunks_len']; exact hcap) (by simp)
          (fun i j v hv => by
            obtain ⟨_, _, h3⟩ := chunks_get' len vs i j v hv
            obtain ⟨x, hx, hc, _⟩ := hcel _ v h3
            rw [hx]
            exact ⟨hc, .inr ⟨rfl, by have := (List.getElem?_eq_some_iff.1 h3).1; omega⟩⟩)
          (fun i j v hv => by
            obtain ⟨_, _, h3⟩ := chunks_get' len vs i j v hv
            obtain ⟨x, hx, _, hr⟩ := hcel _ v h3
            rw [hx]
            exact hr.mono (Mono.froze w e _ _).pure)
        rwa [chunks_len'] at this
  | agg cs cs' hl h ih =>
    intro u hr
    cases hr with
    | agg _ us hl2 h2 =>
      exact .agg cs' us (by omega) fun i v' x hv' hx => by
        have hi : i < cs.length := by rw [hl]; exact (List.getElem?_eq_some_iff.1 hv').1
        exact ih i cs[i] v' (by simp [hi]) hv' (h2 i cs[i] x (by simp [hi]) hx)
  | tup cs cs' hl h ih =>
    intro u hr
    cases hr with
    | tup _ us hl2 h2 =>
      exact .tup cs' us (by omega) fun i v' x hv' hx => by
        have hi : i < cs.length := by rw [hl]; exact (List.getElem?_eq_some_iff.1 hv').1
        exact ih i cs[i] v' (by simp [hi]) hv' (h2 i cs[i] x (by simp [hi]) hx)

theorem StCall.freeze {f : FuncId} {args : List V} {H : Heap} {Ψ : V → Heap → Prop}
    (h : StCall P G f args H fun r H' => ∃ id t vs r', H.length ≤ id ∧ H'[id]? = some (some (.cells t vs)) ∧ (∀ v ∈ vs, v.dataCell = true) ∧ Fz id vs r r' ∧ Ψ r' (H'.set id none)) : StCall P G f args H Ψ := by
  intro w e us hR hargs
  refine CallsIn.mono (h w e us hR hargs) ?_
  rintro en w' ⟨v, r, H', e', rfl, ⟨id, t, vs, r', hid, hH, hd, hfz, hΨ⟩, hR', hv, hx⟩
  have hlive : live H' id := ⟨_, hH⟩
  have hb := hR'.blk id _ hH
  obtain ⟨hF, hl⟩ := hR'.forget id
  have hxF := hx.forget id hl
  have hne : ∀ j, live (H'.set id none) j → j ≠ id := by
    rintro j ⟨b, hb⟩ rfl
    rw [List.getElem?_set] at hb
    split at hb
    · split at hb <;> cases hb
    · rename_i h; exact h rfl
  refine ⟨v, r', H'.set id none, e'.froze (e'.ρ id) vs.length, rfl, hΨ, ?_, ⟨hfz.rep hb hd hv.1, ?_⟩, ?_⟩
  · refine ⟨hF.len, fun j b hj => (hF.blk j b hj).mono (Mono.froze _ _ _ _) rfl, hF.inj, ?_, ?_, ?_, hF.spd, fun g cs hg => (hF.glob g cs hg).mono (Mono.froze _ _ _ _)⟩
    · rintro b o (h | ⟨rfl, ho⟩)
      · exact hF.ro b o h
      · cases hb with
        | cells _ _ cs hw hlen hrep =>
          unfold cel World.cell?
          simp only [hw]
          have : o < cs.size := by omega
          simp [this]
    · rintro j o hj (h | ⟨h, ho⟩)
      · exact hF.roOwn j o hj h
      · exact hne j hj (hR'.inj j id (hl j hj) hlive h)
    · intro c b o hs
      obtain ⟨h1, h2, h3, h4⟩ := hF.sp c b o hs
      refine ⟨h1, h2, ?_, h4⟩
      rintro (h | ⟨rfl, ho⟩)
      · exact h3 h
      · exact (hR'.sp c _ o hs).2.2.2 id hlive rfl
  · have hsame : FlagOk e' r v → FlagOk (e'.froze (e'.ρ id) vs.length) r v := fun h => h.mono fun es rows c _ b o hs => hs
    cases hfz with
    | same => exact hsame hv.2
    | arr => cases v <;> trivial
    | agg => cases v <;> trivial
    | tup => cases v <;> trivial
  · refine ⟨hxF.os, hxF.tape, hxF.output, hxF.size, hxF.len, hxF.ρ, hxF.new, hxF.old, fun b o h => .inl (hxF.ro b o h), ?_, hxF.spNew, hxF.cell, hxF.block⟩
    rintro b o (h | ⟨rfl, ho⟩)
    · exact hxF.roNew b o h
    · exact .inr (.inl (hx.new id hid hlive))

theorem Call2.freeze {f : FuncId} {args : List V} {H : Heap} {Ψ : V → Heap → Prop}
    (h : Call2 P G f args H fun r H' => ∃ id t vs r', H.length ≤ id ∧ H'[id]? = some (some (.cells t vs)) ∧ (∀ v ∈ vs, v.dataCell = true) ∧ Fz id vs r r' ∧ Ψ r' (H'.set id none)) : Call2 P G f args H Ψ :=
  ⟨h.1, h.2.freeze⟩

theorem StCall.weakA {f : FuncId} {args args' : List V} {H : Heap} {Ψ : V → Heap → Prop} (hv : VWs H.length args args') (h : StCall P G f args' H Ψ) : StCall P G f args H Ψ := by
  intro w e us hR hargs
  refine h w e us hR ?_
  obtain ⟨hl, hg⟩ := hv.get
  refine ⟨hl ▸ hargs.1, fun i v' u hv' hu => ?_⟩
  have hi : i < args.length := by rw [hl]; exact (List.getElem?_eq_some_iff.1 hv').1
  have hi' : args[i]? = some args[i] := by simp [hi]
  have := (hg i _ _ hi' hv').repF (e := e) (by rw [hR.len]; exact Nat.le_refl _) (hargs.2 i _ u hi' hu)
  have he : e.cutTo H.length = e := by
    rw [← hR.len]
    rfl
  rwa [he] at this

theorem Call2.weakA {f : FuncId} {args args' : List V} {H : Heap} {Ψ : V → Heap → Prop} (hv : VWs H.length args args') (h : Call2 P G f args' H Ψ) : Call2 P G f args H Ψ := ⟨h.1, h.2.weakA hv⟩

end Go.Abs

/-! DrawC -/
/- Regions that draw their order and in which one call lays new blocks. -/
namespace Go.Abs
open Go.RowKit

variable {P : Program} {G : Nat → Option (List V)}

theorem heapCls_app {H X : Heap} (hX : ∀ k, heapCls X k = false) : heapCls (H ++ X) = heapCls H := by
  funext k
  have := hX k
  unfold heapCls at *
  rw [List.any_append, this, Bool.or_false]

theorem dq_app {all : List Oper} {H X : Heap} (hX : ∀ k, heapCls X k = false) : dq all (H ++ X) = dq all H := by
  unfold dq
  rw [heapCls_app hX]

/-- Is each other operation bound to the call, or does it look at no block? -/
def callOk (ops : List Oper) (q c : Nat) : Bool :=
  let ms := masksG (ops.map Bnd) []
  Nat.blt c q && (List.range q).all fun j => Nat.beq j c || match ops[j]? with
    | some o => heapFree o.op || (if j < c then (ms.getD c 0).testBit j else (ms.getD j 0).testBit c)
    | none => true

def baseC (σ : St) (X : Heap) (b : Bool) : St := if b then { σ with H := σ.H ++ X } else σ

theorem baseC_tmps (σ : St) (X : Heap) (b : Bool) : (baseC σ X b).tmps = σ.tmps := by cases b <;> rfl

theorem draw_c {ops : List Oper} {q : Nat} (hok : DrawOk ops q) (hql : q ≤ ops.length) {c : Nat} {oc : Oper} (hcok : callOk ops q c = true) (hoc : ops[c]? = some oc) (hg : oc.guard = none) (hvc : isVCall oc = true)
    {σ : St} {vals : Nat → V} {k : St → Prop} {Q : Exit → Act → World → Prop} {ro : Option Nat} {X : Heap}
    (hd : σ.tmps.map (V.demote (dq ops σ.H)) = σ.tmps) (hX : ∀ k, heapCls X k = false) (hdc : V.demote (dq ops σ.H) (vals c) = vals c)
    (hcall : ∀ σ', σ'.H = σ.H → (∀ x ∈ oc.op.operands, σ'.ev x = (stL ops q vals σ fun l => decide (l < c)).ev x) → ∀ ro a w e, RSt G σ' a w e →
      OpWp P G ro oc σ' a w e fun v τ => vals c = V.demote (dq ops σ.H) v ∧ τ = σ'.afterCall (σ.H ++ X))
    (hvals : ∀ j o, j < q → j ≠ c → ops[j]? = some o → QC P G ops o (stL ops q vals (baseC σ X (decide (c < j))) fun l => decide (l < j)) (vals j))
    (hk : evOps P G ops (ops.drop q) (stL ops q vals (baseC σ X true) fun j => decide (j < q)) k) {w0 : World} {e0 : Env}
    (hQ : ∀ σ' a' w' e', k σ' → σ'.cur = σ.cur → RSt G σ' a' w' e' → Ext σ.H w0 e0 σ'.H w' e' → Q .normal a' w') :
    ∀ (fuel : Nat) (listed : Array Bool) (a : Act) (w : World) (e : Env), listed.size = ops.length → (∀ j, q ≤ j → j < ops.length → listed.getD j true = false) → Closed ops (fun j => listed.getD j false) →
    (ops.length ≤ fuel + (List.range q).countP (fun j => listed.getD j false)) →
    RSt G (stL ops q vals (baseC σ X (listed.getD c false)) fun j => listed.getD j false) a w e → Ext σ.H w0 e0 (baseC σ X (listed.getD c false)).H w e → wpAnyIn (FW ro) 0 P .any ops.toArray Q fuel listed a w := by
  have hcq : c < q := by
    unfold callOk at hcok
    simp only [Bool.and_eq_true] at hcok
    exact Nat.blt_eq.mp hcok.1
  have hfree : ∀ j o, j < q → j ≠ c → ops[j]? = some o → heapFree o.op = true ∨ (j < c ∧ ((masksG (ops.map Bnd) []).getD c 0).testBit j = true) ∨ (c < j ∧ ((masksG (ops.map Bnd) []).getD j 0).testBit c = true) := by
    intro j o hj hne ho
    unfold callOk at hcok
    simp only [Bool.and_eq_true, List.all_eq_true] at hcok
    have := hcok.2 j (List.mem_range.2 hj)
    rw [ho] at this
    simp only [Bool.or_eq_true] at this
    rcases this with h | h | h
    · exact absurd (Nat.eq_of_beq_eq_true h) hne
    · exact .inl h
    · by_cases hjc : j < c
      · rw [if_pos hjc] at h; exact .inr (.inl ⟨hjc, h⟩)
      · rw [if_neg hjc] at h; exact .inr (.inr ⟨by omega, h⟩)
  have hdq : ∀ b, dq ops (baseC σ X b).H = dq ops σ.H := by
    intro b
    cases b with
    | false => rfl
    | true => exact dq_app hX
  have hdem : ∀ b L, (stL ops q vals (baseC σ X b) L).tmps.map (V.demote (dq ops (baseC σ X b).H)) = (stL ops q vals (baseC σ X b) L).tmps := by
    intro b L
    rw [hdq]
    refine List.ext_getElem? fun t => ?_
    rw [List.getElem?_map, stL_get, baseC_tmps]
    cases hv : σ.tmps[t]? with
    | none => rfl
    | some v =>
      simp only [Option.map_some, Option.some.injEq]
      have hvd : V.demote (dq ops σ.H) v = v := by
        have : (σ.tmps.map (V.demote (dq ops σ.H)))[t]? = σ.tmps[t]? := by rw [hd]
        rw [List.getElem?_map, hv] at this
        simpa using this
      cases hw : own ops q t with
      | none => exact hvd
      | some j =>
        obtain ⟨hj, o, ho, _⟩ := own_some hw
        simp only
        split
        · by_cases hjc : j = c
          · rw [hjc]; exact hdc
          · have := (hvals j o hj hjc ho).1
            have h2 : (stL ops q vals (baseC σ X (decide (c < j))) fun l => decide (l < j)).H = (baseC σ X (decide (c < j))).H := rfl
            rw [h2, hdq] at this
            exact this
        · exact hvd
  have hcur : ∀ b, (baseC σ X b).cur = σ.cur := fun b => by cases b <;> rfl
  intro fuel
  induction fuel with
  | zero =>
    intro listed a w e hs htail hc hf h hx
    have hcnt : (List.range q).countP (fun j => listed.getD j false) ≤ q := by
      have := List.countP_le_length (p := fun j => listed.getD j false) (l := List.range q)
      simpa using this
    have hqe : q = ops.length := by omega
    have hallq : ∀ j, j < q → listed.getD j false = true := by
      have : (List.range q).countP (fun j => listed.getD j false) = (List.range q).length := by rw [List.length_range]; omega
      rw [List.countP_eq_length] at this
      exact fun j hj => this j (List.mem_range.2 hj)
    rw [hallq c hcq] at h hx
    have hst : (stL ops q vals (baseC σ X true) fun j => listed.getD j false) = stL ops q vals (baseC σ X true) fun j => decide (j < q) := by
      refine st_ext rfl rfl rfl fun t => ?_
      rw [stL_get, stL_get]
      congr 1
      funext v
      cases hw : own ops q t with
      | none => rfl
      | some j =>
        obtain ⟨hj, _⟩ := own_some hw
        simp [hallq j hj, hj]
    rw [hst] at h
    refine draw_tail hok 0 q listed _ a w e (Nat.le_refl _) hql (by omega) hs (fun j hj => ?_) h hk fun σ' a' w' e' h1 h2 h3 h4 => hQ σ' a' w' e' h1 (h2.trans (hcur true)) h3 (hx.trans h4)
    have hjs : j < listed.size := by omega
    have := hallq j (by omega)
    simp [hjs] at this ⊢
    rw [this]
    simp; omega
  | succ fuel ih =>
    intro listed a w e hs htail hc hf h hx
    by_cases hallq : ∀ j, j < q → listed.getD j false = true
    · rw [hallq c hcq] at h hx
      have hst : (stL ops q vals (baseC σ X true) fun j => listed.getD j false) = stL ops q vals (baseC σ X true) fun j => decide (j < q) := by
        refine st_ext rfl rfl rfl fun t => ?_
        rw [stL_get, stL_get]
        congr 1
        funext v
        cases hw : own ops q t with
        | none => rfl
        | some j =>
          obtain ⟨hj, _⟩ := own_some hw
          simp [hallq j hj, hj]
      rw [hst] at h
      have hcnt : (List.range q).countP (fun j => listed.getD j false) ≤ q := by
        have := List.countP_le_length (p := fun j => listed.getD j false) (l := List.range q)
        simpa using this
      refine draw_tail hok (fuel + 1) q listed _ a w e (Nat.le_refl _) hql (by omega) hs (fun j hj => ?_) h hk fun σ' a' w' e' h1 h2 h3 h4 => hQ σ' a' w' e' h1 (h2.trans (hcur true)) h3 (hx.trans h4)
      have hjs : j < listed.size := by omega
      by_cases hjq : j < q
      · have := hallq j hjq
        simp [hjs] at this ⊢
        rw [this]
        simp; omega
      · rw [htail j (by omega) hj]
        simp; omega
    · -- the least that has not been carried out may come up
      have hleast : ∃ j, j < q ∧ listed.getD j false = false ∧ ∀ l, l < j → listed.getD l false = true := by
        have : ∃ j, j < q ∧ listed.getD j false = false := by
          by_cases hh : ∃ j, j < q ∧ listed.getD j false = false
          · exact hh
          · exact absurd (fun j hj => by
              cases hb : listed.getD j false with
              | true => rfl
              | false => exact absurd ⟨j, hj, hb⟩ hh) hallq
        obtain ⟨j, hj⟩ := this
        induction j using Nat.strongRecOn with
        | _ j ihj =>
          by_cases hl : ∀ l, l < j → listed.getD l false = true
          · exact ⟨j, hj.1, hj.2, hl⟩
          · have : ∃ l, l < j ∧ listed.getD l false = false := by
              by_cases hh : ∃ l, l < j ∧ listed.getD l false = false
              · exact hh
              · exact absurd (fun l hlj => by
                  cases hb : listed.getD l false with
                  | true => rfl
                  | false => exact absurd ⟨l, hlj, hb⟩ hh) hl
            obtain ⟨l, hl1, hl2⟩ := this
            exact ihj l hl1 ⟨by omega, hl2⟩
      obtain ⟨j0, hj0, hj0f, hj0l⟩ := hleast
      have hgd : ∀ j, j < ops.length → listed.getD j true = listed.getD j false := by
        intro j hj
        have hjs : j < listed.size := by omega
        simp [hjs]
      refine ⟨fun hr => ?_, fun i hi => ?_⟩
      · exfalso
        have hlt : j0 < ops.length := by omega
        have : j0 ∈ Region.ready .any ops.toArray listed := by
          refine mem_ready.2 ⟨by rw [hgd j0 hlt]; exact hj0f, ops[j0], by simp [hlt], fun ed hed hb => ?_⟩
          exact hj0l _ (hok.up j0 ops[j0] (List.getElem?_eq_getElem hlt) ed.on (List.mem_map.2 ⟨ed, List.mem_filter.2 ⟨by simpa using hed, hb⟩, rfl⟩))
        rw [hr] at this
        cases this
      · obtain ⟨h1, o, ho, hall⟩ := mem_ready.1 hi
        rw [List.getElem?_toArray] at ho
        have hlt : i < ops.length := (List.getElem?_eq_some_iff.1 ho).1
        have hbnd : ∀ e' ∈ Bnd o, listed.getD e' false = true := fun e' he' => by
          obtain ⟨ed, hed, rfl⟩ := List.mem_map.1 he'
          obtain ⟨h3, h4⟩ := List.mem_filter.1 hed
          exact hall ed (by simpa using h3) h4
        have hiq : i < q := by
          rcases Nat.lt_or_ge i q with h2 | h2
          · exact h2
          · exfalso
            have := closed_mask hok.up hc i o ho hbnd j0 (hok.tail i o j0 h2 ho (by omega))
            simp only [hj0f] at this
            cases this
        have hif : listed.getD i false = false := by rw [← hgd i hlt]; exact h1
        have hLeq : (fun j => listed.getD j false || decide (j = i)) = fun j => (listed.setIfInBounds i true).getD j false := by
          funext j
          by_cases hji : i = j
          · subst hji
            have hjs : i < listed.size := by omega
            simp [hjs]
          · have hji' : ¬ j = i := fun h => hji h.symm
            rw [getD_set_ne false hji]
            simp [hji']
        have next : ∀ a' w' e', RSt G (stL ops q vals (baseC σ X ((listed.setIfInBounds i true).getD c false)) fun j => (listed.setIfInBounds i true).getD j false) a' w' e' →
            Ext σ.H w0 e0 (baseC σ X ((listed.setIfInBounds i true).getD c false)).H w' e' → wpAnyIn (FW ro) 0 P .any ops.toArray Q fuel (listed.setIfInBounds i true) a' w' := by
          intro a' w' e' hst' hx'
          refine ih _ a' w' e' (by simpa using hs) (fun j hj hjl => ?_) (fun j o' hj hL e'' he'' => ?_) ?_ hst' hx'
          · rw [getD_set_ne true (by omega)]
            exact htail j hj hjl
          · simp only [← congrFun hLeq j] at hL
            simp only [← congrFun hLeq e'']
            simp only [Bool.or_eq_true, decide_eq_true_eq] at hL ⊢
            rcases hL with hL | rfl
            · exact .inl (hc j o' hj hL e'' he'')
            · rw [ho] at hj
              cases hj
              exact .inl (hbnd e'' he'')
          · have hcnt : (List.range q).countP (fun j => (listed.setIfInBounds i true).getD j false) = (List.range q).countP (fun j => listed.getD j false) + 1 := by
              rw [← hLeq]
              have gen : ∀ n, (List.range n).countP (fun j => listed.getD j false || decide (j = i)) = (List.range n).countP (fun j => listed.getD j false) + if i < n then 1 else 0 := by
                intro n
                induction n with
                | zero => simp
                | succ n ihn =>
                  rw [List.range_succ, List.countP_append, List.countP_append, ihn]
                  simp only [List.countP_cons, List.countP_nil, Nat.zero_add]
                  by_cases hni : n = i
                  · subst hni
                    rw [hif]
                    simp
                  · simp only [hni, decide_false, Bool.or_false]
                    by_cases h1 : i < n
                    · have h2 : i < n + 1 := by omega
                      rw [if_pos h1, if_pos h2]; omega
                    · have h2 : ¬ i < n + 1 := by omega
                      rw [if_neg h1, if_neg h2]; omega
              rw [gen q, if_pos hiq]
            rw [hcnt]
            omega
        by_cases hic : i = c
        · subst hic
          rw [ho] at hoc
          cases hoc
          rw [hif] at h hx
          have hag := agree_stL hok vals (baseC σ X false) (fun j => listed.getD j false) hc hiq ho hbnd hif
          unfold wpOpIn
          simp only [List.getElem?_toArray, ho]
          rw [want_run (b := true) h (by unfold Want; rw [hg]), if_pos rfl]
          refine hcall (stL ops q vals (baseC σ X false) fun j => listed.getD j false) rfl (fun x hx => hag.agree.2 x hx) ro a w e h _ _ fun x w' v τ e' hk' hc' hst hv hx2 => ?_
          obtain ⟨hvd, rfl⟩ := hk'
          have hdqc : dq ops σ.H = heapCls σ.H := dq_call (List.mem_of_getElem? ho) hvc
          have hτ : ((stL ops q vals (baseC σ X false) fun j => listed.getD j false).afterCall (σ.H ++ X)) = stL ops q vals (baseC σ X true) fun j => listed.getD j false := by
            refine st_ext rfl rfl rfl fun t => ?_
            have h3 := hdem false fun j => listed.getD j false
            rw [hdq, hdqc] at h3
            show ((stL ops q vals (baseC σ X false) fun j => listed.getD j false).tmps.map (V.demote (heapCls σ.H)))[t]? = _
            rw [h3]
            rfl
          rw [hτ] at hst hx2
          have hst2 := hst.put oc.dst (hv.demote (dq ops σ.H))
          rw [← hvd, stL_put hok vals _ _ hiq ho] at hst2
          have hLc : (listed.setIfInBounds i true).getD i false = true := by
            have := congrFun hLeq i
            simp at this
            have hjs : i < listed.size := by omega
            simp [hjs]
          refine next _ _ e' ?_ ?_
          · rw [hLc, ← hLeq]; exact hst2
          · rw [hLc]; exact hx.trans hx2
        · have hag := agree_stL hok vals (baseC σ X (listed.getD c false)) (fun j => listed.getD j false) hc hiq ho hbnd hif
          have hAg : AgreeL ops o (stL ops q vals (baseC σ X (decide (c < i))) fun l => decide (l < i)) (stL ops q vals (baseC σ X (listed.getD c false)) fun j => listed.getD j false) := by
            have key : heapFree o.op = true ∨ listed.getD c false = decide (c < i) := by
              rcases hfree i o hiq hic ho with h | ⟨h2, h3⟩ | ⟨h2, h3⟩
              · exact .inl h
              · right
                have : ¬ c < i := by omega
                cases hLc : listed.getD c false with
                | false => simp [this]
                | true =>
                  have := closed_mask hok.up hc c oc hoc (fun e he => hc c oc hoc hLc e he) i h3
                  rw [hif] at this; cases this
              · right
                rw [closed_mask hok.up hc i o ho hbnd c h3]
                simp [h2]
            refine ⟨?_, fun t ht => ?_⟩
            · rcases key with h | h
              · exact .inl h
              · right
                rw [h]
                exact PreH.rfl'
            · have h2 := hag.2 t ht
              rw [h2, stL_get, stL_get, baseC_tmps, baseC_tmps]
          refine qc_run ho (hvals i o hiq hic ho) hAg h (by have := hdem (listed.getD c false) fun j => listed.getD j false; exact this) fun a' w' e' hst' hx' => ?_
          rw [stL_put hok vals _ _ hiq ho] at hst'
          have hLc : (listed.setIfInBounds i true).getD c false = listed.getD c false := getD_set_ne false hic
          refine next a' w' e' ?_ ?_
          · rw [hLc, ← hLeq]; exact hst'
          · rw [hLc]; exact hx.trans hx'

theorem stL_congr {ops : List Oper} {q : Nat} {vals vals' : Nat → V} {σ : St} {L : Nat → Bool} (h : ∀ l, L l = true → vals l = vals' l) : stL ops q vals σ L = stL ops q vals' σ L := by
  refine st_ext rfl rfl rfl fun t => ?_
  rw [stL_get, stL_get]
  congr 1
  funext v
  cases own ops q t with
  | none => rfl
  | some j =>
    simp only
    cases hL : L j with
    | false => rfl
    | true => simp [h j hL]

/-- The call that lays new blocks, in the order of the text. -/
def CallC (P : Program) (G : Nat → Option (List V)) (all : List Oper) (o : Oper) (σ : St) (K : V → Heap → Prop) : Prop :=
  match o.op with
  | .call { callee := .value f, args, .. } => match σ.ev f with
    | .fn (.func g) a b => (∃ fn, P.funcs[g]? = some fn ∧ fn.body.isSome ∧ (fn.name == "runtime.NumGoroutine") = false) ∧
        ∃ v X, StCall P G g ((a ++ (args.toList.map σ.ev) ++ b).map V.strip) σ.H (fun r H' => H' = σ.H ++ X ∧ r = v) ∧ (∀ k, heapCls X k = false) ∧ K (V.demote (dq all σ.H) v) X
    | _ => False
  | _ => False

theorem wpc_drawC {id : Nat} {ops : Array Oper} {Φ : Exit → St → Prop} {σ : St} (q c : Nat) (oc : Oper) (hm : P.follows .mixedOrders = true) (hql : q ≤ ops.toList.length) (hok : drawOk ops.toList q = true)
    (hcok : callOk ops.toList q c = true) (hoc : ops.toList[c]? = some oc) (hg : oc.guard = none)
    (h : evQs P G ops.toList (ops.toList.take c) { σ with tmps := σ.tmps.map (V.demote (dq ops.toList σ.H)) } fun σ1 => CallC P G ops.toList oc σ1 fun u X =>
      evQs P G ops.toList ((ops.toList.drop (c + 1)).take (q - (c + 1))) (({ σ1 with H := σ1.H ++ X } : St).put oc.dst u) fun σ2 => evOps P G ops.toList (ops.toList.drop q) σ2 (Φ .normal)) :
    WPc P G (.region id ops true) Φ σ := by
  intro a w e hst
  have hok := drawOk_spec hok
  refine wpIn_region_any hm ?_
  let σ1 : St := { σ with tmps := σ.tmps.map (V.demote (dq ops.toList σ.H)) }
  obtain ⟨hst1, hx1⟩ := hst.drew
  have hst2 : RSt G σ1 a w.drew e := ⟨hst1.heap, ⟨by
    show (σ.tmps.map _).length = _
    simpa using hst1.tmps.1, fun i v u hv hu => by
    simp only [σ1, List.getElem?_map] at hv
    obtain ⟨v', hv', rfl⟩ := Option.map_eq_some_iff.1 hv
    exact (hst1.tmps.2 i v' u hv' hu).demote _⟩, hst1.defs, hst1.defsN, hst1.cur⟩
  have h0 : ∀ vals b, stL ops.toList q vals b (fun j => decide (j < 0)) = b := fun vals b => by
    refine st_ext rfl rfl rfl fun t => ?_
    rw [stL_get]
    cases b.tmps[t]? with
    | none => rfl
    | some v => cases own ops.toList q t <;> simp
  have hcq : c < q := by
    unfold callOk at hcok
    simp only [Bool.and_eq_true] at hcok
    exact Nat.blt_eq.mp hcok.1
  obtain ⟨vals, _, hv, hk⟩ := evQs_vals hok hql (n := c) (by omega) σ1 _ c 0 (fun _ => .bad) (by omega) (by rw [h0]; simpa using h)
  unfold CallC at hk
  split at hk
  · rename_i f args ts hop
    split at hk
    · rename_i g ca cb hf
      obtain ⟨hfn, v, X, hcall, hX, hk⟩ := hk
      have hvc : isVCall oc = true := by unfold isVCall; rw [hop]
      let vals1 : Nat → V := fun j => if j = c then V.demote (dq ops.toList σ.H) v else vals j
      have hput : ((({ stL ops.toList q vals σ1 (fun j => decide (j < c)) with H := (stL ops.toList q vals σ1 fun j => decide (j < c)).H ++ X } : St)).put oc.dst (V.demote (dq ops.toList (stL ops.toList q vals σ1 fun j => decide (j < c)).H) v)) =
          stL ops.toList q vals1 (baseC σ1 X true) fun j => decide (j < c + 1) := by
        have e1 : (({ stL ops.toList q vals σ1 (fun j => decide (j < c)) with H := (stL ops.toList q vals σ1 fun j => decide (j < c)).H ++ X } : St)) = stL ops.toList q vals (baseC σ1 X true) fun j => decide (j < c) := rfl
        have e2 : stL ops.toList q vals (baseC σ1 X true) (fun j => decide (j < c)) = stL ops.toList q vals1 (baseC σ1 X true) fun j => decide (j < c) := stL_congr fun l hl => by
          have : l ≠ c := by simp at hl; omega
          simp [vals1, this]
        have e3 : V.demote (dq ops.toList (stL ops.toList q vals σ1 fun j => decide (j < c)).H) v = vals1 c := by simp [vals1, stL, σ1]
        rw [e1, e2, e3, stL_put hok vals1 _ _ hcq hoc]
        congr 1
        funext j
        by_cases hj : j = c
        · simp [hj]
        · simp only [hj, decide_false, Bool.or_false, decide_eq_decide]
          omega
      rw [hput] at hk
      obtain ⟨vals2, hsame, hv2, hk2⟩ := evQs_vals hok hql (n := q) (Nat.le_refl _) (baseC σ1 X true) _ (q - (c + 1)) (c + 1) vals1 (by omega) hk
      have hlow : ∀ n, n ≤ c → ∀ b, stL ops.toList q vals2 b (fun l => decide (l < n)) = stL ops.toList q vals b fun l => decide (l < n) := fun n hn b => stL_congr fun l hl => by
        have hl' : l < n := by simpa using hl
        rw [hsame l (by omega)]
        have : l ≠ c := by omega
        simp [vals1, this]
      have hvc2 : vals2 c = V.demote (dq ops.toList σ.H) v := by rw [hsame c (by omega)]; simp [vals1]
      have := draw_c (ro := σ.cur.map e.ρ) hok hql hcok hoc hg hvc (σ := σ1) (vals := vals2) (X := X) (Q := fun x a' w' => ∃ σ' e', Φ x σ' ∧ σ'.cur = σ.cur ∧ RSt G σ' a' w' e' ∧ Ext σ.H w e σ'.H w' e') (w0 := w) (e0 := e)
        (by simp only [σ1, List.map_map]; exact List.map_congr_left fun v _ => demote_demote _ v) hX (by rw [hvc2]; exact demote_demote _ v)
        (fun σ' hH hops ro act w e hst => by
          refine (evOp_sound (k := fun r τ => vals2 c = V.demote (dq ops.toList σ1.H) r ∧ τ = σ'.afterCall (σ1.H ++ X)) hst ?_)
          rw [hlow c (Nat.le_refl _)] at hops
          have hev : σ'.ev f = .fn (.func g) ca cb := by rw [hops f (by simp [hop, Op.operands, Call.operands]), hf]
          have hargs : args.toList.map σ'.ev = args.toList.map (stL ops.toList q vals σ1 fun l => decide (l < c)).ev := List.map_congr_left fun x hx => hops x (by simp [hop, Op.operands, Call.operands, Array.mem_toList_iff.1 hx])
          simp only [evOp, hop, hev]
          refine ⟨hfn, ?_⟩
          rw [hargs, hH]
          refine hcall.mono fun r H' ⟨g1, g2⟩ => ⟨?_, ?_⟩
          · rw [hvc2, g2]
          · rw [g1]
            rfl)
        (fun j o hj hne ho => by
          by_cases hjc : j < c
          · have hd : decide (c < j) = false := by simp; omega
            rw [hd, hlow j (by omega), hsame j (by omega)]
            have : vals1 j = vals j := by simp [vals1, hne]
            rw [this]
            exact hv j o (by omega) hjc ho
          · have hd : decide (c < j) = true := by simp; omega
            rw [hd]
            exact hv2 j o (by omega) hj ho)
        hk2 (fun σ' a' w' e' h1 h2 h3 h4 => ⟨σ', e', h1, h2, h3, h4⟩)
        ops.size (Array.replicate ops.size false) a w.drew e (by simp) (fun j _ hj => by
          have hj' : j < ops.size := by simpa using hj
          simp [hj']) (fun i o hi hL => by
          exfalso
          have hi' : i < ops.size := by have := (List.getElem?_eq_some_iff.1 hi).1; simpa using this
          simp [hi'] at hL) (by simp) (by
          have hcf : (Array.replicate ops.size false).getD c false = false := by
            by_cases hh : c < ops.size <;> simp [hh]
          have hLf : (fun j => (Array.replicate ops.size false).getD j false) = fun j => decide (j < 0) := by
            funext j
            by_cases hj : j < ops.size <;> simp [hj]
          rw [hcf, hLf, h0]
          exact hst2) (by
          have hcf : (Array.replicate ops.size false).getD c false = false := by
            by_cases hh : c < ops.size <;> simp [hh]
          rw [hcf]
          exact hx1)
      simpa using this
    · exact hk.elim
  · exact hk.elim

/-- The same, for reduction. -/
def CallC2 (P : Program) (G : Nat → Option (List V)) (all : List Oper) (o : Oper) (s : S2) (K : V → Heap → Prop) : Prop :=
  match o.op with
  | .call { callee := .value f, args, .. } => match s.ev f with
    | .fn (.func g) a b => ∃ v X, Call2 P G g ((a ++ (args.toList.map s.ev) ++ b).map V.strip) s.H (fun r H' => H' = s.H ++ X ∧ r = v) ∧ (∀ k, heapCls X k = false) ∧ demK all s.H v fun v => K v X
    | _ => False
  | _ => False

theorem callC2_imp {all : List Oper} {o : Oper} {s : S2} {K K' : V → Heap → Prop} (hw : s.Wf) (hK : ∀ v X, K v X → K' v X) (h : CallC2 P G all o s K) : CallC P G all o s.st K' := by
  have hev : ∀ x, s.st.ev x = s.ev x := fun x => S2.ev_eq hw x
  have hmap : ∀ l : List Operand, l.map s.st.ev = l.map s.ev := fun l => List.map_congr_left fun x _ => hev x
  unfold CallC2 at h
  unfold CallC
  split at h
  · rename_i f args ts ho
    rw [hev]
    split at h
    · rename_i g a b hf
      obtain ⟨v, X, h1, h2, h3⟩ := h
      rw [demK_eq] at h3
      refine ⟨h1.1, v, X, ?_, h2, hK _ _ h3⟩
      rw [hmap]
      exact h1.2
    · exact h.elim
  · exact h.elim

theorem wpc_drawC2 {id : Nat} {ops : Array Oper} {Φ : Exit → S2 → Prop} {s : S2} (q c : Nat) (oc : Oper) (hm : P.follows .mixedOrders = true) (hql : q ≤ ops.toList.length) (hok : drawOk ops.toList q = true)
    (hcok : callOk ops.toList q c = true) (hoc : ops.toList[c]? = some oc) (hg : oc.guard = none) (hw : s.Wf)
    (h : evQs2 P G ops.toList (ops.toList.take c) (s.dem (dq ops.toList s.H)) fun s1 => CallC2 P G ops.toList oc s1 fun u X => put2 (s1.setH (s1.H ++ X)) oc.dst u fun s2 =>
      evQs2 P G ops.toList ((ops.toList.drop (c + 1)).take (q - (c + 1))) s2 fun s3 => evOps2 P G ops.toList (ops.toList.drop q) s3 (Φ .normal)) : WPc P G (.region id ops true) (toΦ s.n Φ) s.st := by
  refine wpc_drawC q c oc hm hql hok hcok hoc hg ?_
  have hd := S2.dem_st (s := s) (dq ops.toList s.H)
  have hn : (s.dem (dq ops.toList s.H)).n = s.n := by unfold S2.dem; split <;> rfl
  have := evQs2_imp (K := fun σ1 => CallC P G ops.toList oc σ1 fun u X =>
      evQs P G ops.toList ((ops.toList.drop (c + 1)).take (q - (c + 1))) (({ σ1 with H := σ1.H ++ X } : St).put oc.dst u) fun σ2 => evOps P G ops.toList (ops.toList.drop q) σ2 (toΦ s.n Φ .normal)) s.n
    (fun s1 hw1 hn1 h1 => callC2_imp hw1 (fun u X hk => by
      have hwX : (s1.setH (s1.H ++ X)).Wf := by rw [S2.setH_eq]; exact ⟨hw1.n, hw1.d⟩
      obtain ⟨s2, e1, e2, e3, e4⟩ := put2_imp hwX hk
      have hst : ({ s1.st with H := s1.st.H ++ X } : St) = (s1.setH (s1.H ++ X)).st := by rw [S2.setH_eq]; rfl
      rw [hst, ← e1]
      have hn2 : s2.n = s.n := by rw [e3, S2.setH_eq]; exact hn1
      exact evQs2_imp s.n (fun s3 hw3 hn3 h3 => evOps2_imp s.n (fun s'' hw'' hn'' h'' => ⟨s'', rfl, hw'', hn'', h''⟩) _ s3 hw3 hn3 h3) _ s2 e2 hn2 e4) h1) _ _ (S2.dem_wf hw _) hn h
  rw [hd] at this
  exact this

end Go.Abs

/-! DrawA -/
/- Regions that draw their order and in which one operation lays a new block, whenever it comes up. -/
namespace Go.Abs
open Go.RowKit
set_option linter.unusedVariables false
set_option linter.unusedSimpArgs false

variable {P : Program} {G : Nat → Option (List V)}

theorem draw_a {ops : List Oper} {q : Nat} (hok : DrawOk ops q) (hql : q ≤ ops.length) {c : Nat} {oc : Oper} (hcq : c < q) (hoc : ops[c]? = some oc) (hg : oc.guard = none)
    {σ : St} {vals : Nat → V} {k : St → Prop} {Q : Exit → Act → World → Prop} {ro : Option Nat} {X : Heap}
    (hd : σ.tmps.map (V.demote (dq ops σ.H)) = σ.tmps) (hX : ∀ k, heapCls X k = false) (hdc : V.demote (dq ops σ.H) (vals c) = vals c)
    (hcall : ∀ σ', σ'.H = σ.H → (∀ x ∈ oc.op.operands, σ'.ev x = (stL ops q vals σ fun l => decide (l < c)).ev x) → ∀ ro a w e, RSt G σ' a w e →
      OpWp P G ro oc σ' a w e fun v τ => vals c = V.demote (dq ops σ.H) v ∧ τ = { σ' with H := σ.H ++ X })
    (hvals : ∀ j o, j < q → j ≠ c → ops[j]? = some o → QC P G ops o (stL ops q vals σ fun l => decide (l < j)) (vals j))
    (hk : evOps P G ops (ops.drop q) (stL ops q vals (baseC σ X true) fun j => decide (j < q)) k) {w0 : World} {e0 : Env}
    (hQ : ∀ σ' a' w' e', k σ' → σ'.cur = σ.cur → RSt G σ' a' w' e' → Ext σ.H w0 e0 σ'.H w' e' → Q .normal a' w') :
    ∀ (fuel : Nat) (listed : Array Bool) (a : Act) (w : World) (e : Env), listed.size = ops.length → (∀ j, q ≤ j → j < ops.length → listed.getD j true = false) → Closed ops (fun j => listed.getD j false) →
    (ops.length ≤ fuel + (List.range q).countP (fun j => listed.getD j false)) →
    RSt G (stL ops q vals (baseC σ X (listed.getD c false)) fun j => listed.getD j false) a w e → Ext σ.H w0 e0 (baseC σ X (listed.getD c false)).H w e → wpAnyIn (FW ro) 0 P .any ops.toArray Q fuel listed a w := by
  have hdq : ∀ b, dq ops (baseC σ X b).H = dq ops σ.H := by
    intro b
    cases b with
    | false => rfl
    | true => exact dq_app hX
  have hdem : ∀ b L, (stL ops q vals (baseC σ X b) L).tmps.map (V.demote (dq ops (baseC σ X b).H)) = (stL ops q vals (baseC σ X b) L).tmps := by
    intro b L
    rw [hdq]
    refine List.ext_getElem? fun t => ?_
    rw [List.getElem?_map, stL_get, baseC_tmps]
    cases hv : σ.tmps[t]? with
    | none => rfl
    | some v =>
      simp only [Option.map_some, Option.some.injEq]
      have hvd : V.demote (dq ops σ.H) v = v := by
        have : (σ.tmps.map (V.demote (dq ops σ.H)))[t]? = σ.tmps[t]? := by rw [hd]
        rw [List.getElem?_map, hv] at this
        simpa using this
      cases hw : own ops q t with
      | none => exact hvd
      | some j =>
        obtain ⟨hj, o, ho, _⟩ := own_some hw
        simp only
        split
        · by_cases hjc : j = c
          · rw [hjc]; exact hdc
          · have := (hvals j o hj hjc ho).1
            exact this
        · exact hvd
  have hcur : ∀ b, (baseC σ X b).cur = σ.cur := fun b => by cases b <;> rfl
  intro fuel
  induction fuel with
  | zero =>
    intro listed a w e hs htail hc hf h hx
    have hcnt : (List.range q).countP (fun j => listed.getD j false) ≤ q := by
      have := List.countP_le_length (p := fun j => listed.getD j false) (l := List.range q)
      simpa using this
    have hqe : q = ops.length := by omega
    have hallq : ∀ j, j < q → listed.getD j false = true := by
      have : (List.range q).countP (fun j => listed.getD j false) = (List.range q).length := by rw [List.length_range]; omega
      rw [List.countP_eq_length] at this
      exact fun j hj => this j (List.mem_range.2 hj)
    rw [hallq c hcq] at h hx
    have hst : (stL ops q vals (baseC σ X true) fun j => listed.getD j false) = stL ops q vals (baseC σ X true) fun j => decide (j < q) := by
      refine st_ext rfl rfl rfl fun t => ?_
      rw [stL_get, stL_get]
      congr 1
      funext v
      cases hw : own ops q t with
      | none => rfl
      | some j =>
        obtain ⟨hj, _⟩ := own_some hw
        simp [hallq j hj, hj]
    rw [hst] at h
    refine draw_tail hok 0 q listed _ a w e (Nat.le_refl _) hql (by omega) hs (fun j hj => ?_) h hk fun σ' a' w' e' h1 h2 h3 h4 => hQ σ' a' w' e' h1 (h2.trans (hcur true)) h3 (hx.trans h4)
    have hjs : j < listed.size := by omega
    have := hallq j (by omega)
    simp [hjs] at this ⊢
    rw [this]
    simp; omega
  | succ fuel ih =>
    intro listed a w e hs htail hc hf h hx
    by_cases hallq : ∀ j, j < q → listed.getD j false = true
    · rw [hallq c hcq] at h hx
      have hst : (stL ops q vals (baseC σ X true) fun j => listed.getD j false) = stL ops q vals (baseC σ X true) fun j => decide (j < q) := by
        refine st_ext rfl rfl rfl fun t => ?_
        rw [stL_get, stL_get]
        congr 1
        funext v
        cases hw : own ops q t with
        | none => rfl
        | some j =>
          obtain ⟨hj, _⟩ := own_some hw
          simp [hallq j hj, hj]
      rw [hst] at h
      have hcnt : (List.range q).countP (fun j => listed.getD j false) ≤ q := by
        have := List.countP_le_length (p := fun j => listed.getD j false) (l := List.range q)
        simpa using this
      refine draw_tail hok (fuel + 1) q listed _ a w e (Nat.le_refl _) hql (by omega) hs (fun j hj => ?_) h hk fun σ' a' w' e' h1 h2 h3 h4 => hQ σ' a' w' e' h1 (h2.trans (hcur true)) h3 (hx.trans h4)
      have hjs : j < listed.size := by omega
      by_cases hjq : j < q
      · have := hallq j hjq
        simp [hjs] at this ⊢
        rw [this]
        simp; omega
      · rw [htail j (by omega) hj]
        simp; omega
    · -- the least that has not been carried out may come up
      have hleast : ∃ j, j < q ∧ listed.getD j false = false ∧ ∀ l, l < j → listed.getD l false = true := by
        have : ∃ j, j < q ∧ listed.getD j false = false := by
          by_cases hh : ∃ j, j < q ∧ listed.getD j false = false
          · exact hh
          · exact absurd (fun j hj => by
              cases hb : listed.getD j false with
              | true => rfl
              | false => exact absurd ⟨j, hj, hb⟩ hh) hallq
        obtain ⟨j, hj⟩ := this
        induction j using Nat.strongRecOn with
        | _ j ihj =>
          by_cases hl : ∀ l, l < j → listed.getD l false = true
          · exact ⟨j, hj.1, hj.2, hl⟩
          · have : ∃ l, l < j ∧ listed.getD l false = false := by
              by_cases hh : ∃ l, l < j ∧ listed.getD l false = false
              · exact hh
              · exact absurd (fun l hlj => by
                  cases hb : listed.getD l false with
                  | true => rfl
                  | false => exact absurd ⟨l, hlj, hb⟩ hh) hl
            obtain ⟨l, hl1, hl2⟩ := this
            exact ihj l hl1 ⟨by omega, hl2⟩
      obtain ⟨j0, hj0, hj0f, hj0l⟩ := hleast
      have hgd : ∀ j, j < ops.length → listed.getD j true = listed.getD j false := by
        intro j hj
        have hjs : j < listed.size := by omega
        simp [hjs]
      refine ⟨fun hr => ?_, fun i hi => ?_⟩
      · exfalso
        have hlt : j0 < ops.length := by omega
        have : j0 ∈ Region.ready .any ops.toArray listed := by
          refine mem_ready.2 ⟨by rw [hgd j0 hlt]; exact hj0f, ops[j0], by simp [hlt], fun ed hed hb => ?_⟩
          exact hj0l _ (hok.up j0 ops[j0] (List.getElem?_eq_getElem hlt) ed.on (List.mem_map.2 ⟨ed, List.mem_filter.2 ⟨by simpa using hed, hb⟩, rfl⟩))
        rw [hr] at this
        cases this
      · obtain ⟨h1, o, ho, hall⟩ := mem_ready.1 hi
        rw [List.getElem?_toArray] at ho
        have hlt : i < ops.length := (List.getElem?_eq_some_iff.1 ho).1
        have hbnd : ∀ e' ∈ Bnd o, listed.getD e' false = true := fun e' he' => by
          obtain ⟨ed, hed, rfl⟩ := List.mem_map.1 he'
          obtain ⟨h3, h4⟩ := List.mem_filter.1 hed
          exact hall ed (by simpa using h3) h4
        have hiq : i < q := by
          rcases Nat.lt_or_ge i q with h2 | h2
          · exact h2
          · exfalso
            have := closed_mask hok.up hc i o ho hbnd j0 (hok.tail i o j0 h2 ho (by omega))
            simp only [hj0f] at this
            cases this
        have hif : listed.getD i false = false := by rw [← hgd i hlt]; exact h1
        have hLeq : (fun j => listed.getD j false || decide (j = i)) = fun j => (listed.setIfInBounds i true).getD j false := by
          funext j
          by_cases hji : i = j
          · subst hji
            have hjs : i < listed.size := by omega
            simp [hjs]
          · have hji' : ¬ j = i := fun h => hji h.symm
            rw [getD_set_ne false hji]
            simp [hji']
        have next : ∀ a' w' e', RSt G (stL ops q vals (baseC σ X ((listed.setIfInBounds i true).getD c false)) fun j => (listed.setIfInBounds i true).getD j false) a' w' e' →
            Ext σ.H w0 e0 (baseC σ X ((listed.setIfInBounds i true).getD c false)).H w' e' → wpAnyIn (FW ro) 0 P .any ops.toArray Q fuel (listed.setIfInBounds i true) a' w' := by
          intro a' w' e' hst' hx'
          refine ih _ a' w' e' (by simpa using hs) (fun j hj hjl => ?_) (fun j o' hj hL e'' he'' => ?_) ?_ hst' hx'
          · rw [getD_set_ne true (by omega)]
            exact htail j hj hjl
          · simp only [← congrFun hLeq j] at hL
            simp only [← congrFun hLeq e'']
            simp only [Bool.or_eq_true, decide_eq_true_eq] at hL ⊢
            rcases hL with hL | rfl
            · exact .inl (hc j o' hj hL e'' he'')
            · rw [ho] at hj
              cases hj
              exact .inl (hbnd e'' he'')
          · have hcnt : (List.range q).countP (fun j => (listed.setIfInBounds i true).getD j false) = (List.range q).countP (fun j => listed.getD j false) + 1 := by
              rw [← hLeq]
              have gen : ∀ n, (List.range n).countP (fun j => listed.getD j false || decide (j = i)) = (List.range n).countP (fun j => listed.getD j false) + if i < n then 1 else 0 := by
                intro n
                induction n with
                | zero => simp
                | succ n ihn =>
                  rw [List.range_succ, List.countP_append, List.countP_append, ihn]
                  simp only [List.countP_cons, List.countP_nil, Nat.zero_add]
                  by_cases hni : n = i
                  · subst hni
                    rw [hif]
                    simp
                  · simp only [hni, decide_false, Bool.or_false]
                    by_cases h1 : i < n
                    · have h2 : i < n + 1 := by omega
                      rw [if_pos h1, if_pos h2]; omega
                    · have h2 : ¬ i < n + 1 := by omega
                      rw [if_neg h1, if_neg h2]; omega
              rw [gen q, if_pos hiq]
            rw [hcnt]
            omega
        by_cases hic : i = c
        · subst hic
          rw [ho] at hoc
          cases hoc
          rw [hif] at h hx
          have hag := agree_stL hok vals (baseC σ X false) (fun j => listed.getD j false) hc hiq ho hbnd hif
          unfold wpOpIn
          simp only [List.getElem?_toArray, ho]
          rw [want_run (b := true) h (by unfold Want; rw [hg]), if_pos rfl]
          refine hcall (stL ops q vals (baseC σ X false) fun j => listed.getD j false) rfl (fun x hx => hag.agree.2 x hx) ro a w e h _ _ fun x w' v τ e' hk' hc' hst hv hx2 => ?_
          obtain ⟨hvd, rfl⟩ := hk'
          have hτ : ({ (stL ops q vals (baseC σ X false) fun j => listed.getD j false) with H := σ.H ++ X } : St) = stL ops q vals (baseC σ X true) fun j => listed.getD j false := rfl
          rw [hτ] at hst hx2
          have hst2 := hst.put oc.dst (hv.demote (dq ops σ.H))
          rw [← hvd, stL_put hok vals _ _ hiq ho] at hst2
          have hLc : (listed.setIfInBounds i true).getD i false = true := by
            have := congrFun hLeq i
            simp at this
            have hjs : i < listed.size := by omega
            simp [hjs]
          refine next _ _ e' ?_ ?_
          · rw [hLc, ← hLeq]; exact hst2
          · rw [hLc]; exact hx.trans hx2
        · have hag := agree_stL hok vals (baseC σ X (listed.getD c false)) (fun j => listed.getD j false) hc hiq ho hbnd hif
          have hAg : AgreeL ops o (stL ops q vals σ fun l => decide (l < i)) (stL ops q vals (baseC σ X (listed.getD c false)) fun j => listed.getD j false) := by
            refine ⟨.inr ?_, fun t ht => ?_⟩
            · cases listed.getD c false with
              | false => exact PreH.rfl'
              | true => exact ⟨X, hX, rfl⟩
            · have h2 := hag.2 t ht
              rw [h2, stL_get, stL_get, baseC_tmps]
          refine qc_run ho (hvals i o hiq hic ho) hAg h (by have := hdem (listed.getD c false) fun j => listed.getD j false; exact this) fun a' w' e' hst' hx' => ?_
          rw [stL_put hok vals _ _ hiq ho] at hst'
          have hLc : (listed.setIfInBounds i true).getD c false = listed.getD c false := getD_set_ne false hic
          refine next a' w' e' ?_ ?_
          · rw [hLc, ← hLeq]; exact hst'
          · rw [hLc]; exact hx.trans hx'


/-- The operation that lays a new block. -/
def LayC (P : Program) (G : Nat → Option (List V)) (all : List Oper) (o : Oper) (σ : St) (K : V → Heap → Prop) : Prop :=
  match o.op with
  | .alloc t => match zeroOf P t with
    | some cs => (cs.all fun v => !v.isCls) = true ∧ K (.ptr σ.H.length 0) [some (.cells t cs)]
    | none => False
  | _ => False

theorem noCls_any {cs : List V} (h : (cs.all fun v => !v.isCls) = true) (k : Nat) : cs.any (V.hasCls k) = false := by
  rw [List.any_eq_false]
  intro v hv
  have := List.all_eq_true.1 h v hv
  cases v with
  | dat es rows fl => cases fl with
    | cls c => simp [V.isCls] at this
    | _ => simp [V.hasCls]
  | _ => simp [V.hasCls]

theorem wpc_drawA {id : Nat} {ops : Array Oper} {Φ : Exit → St → Prop} {σ : St} (q : Nat) (oc : Oper) (hm : P.follows .mixedOrders = true) (hql : q + 1 ≤ ops.toList.length) (hok : drawOk ops.toList (q + 1) = true)
    (hoc : ops.toList[q]? = some oc) (hg : oc.guard = none)
    (h : evQs P G ops.toList (ops.toList.take q) { σ with tmps := σ.tmps.map (V.demote (dq ops.toList σ.H)) } fun σ1 => LayC P G ops.toList oc σ1 fun u X =>
      evOps P G ops.toList (ops.toList.drop (q + 1)) (({ σ1 with H := σ1.H ++ X } : St).put oc.dst u) (Φ .normal)) :
    WPc P G (.region id ops true) Φ σ := by
  intro a w e hst
  have hok := drawOk_spec hok
  refine wpIn_region_any hm ?_
  let σ1 : St := { σ with tmps := σ.tmps.map (V.demote (dq ops.toList σ.H)) }
  obtain ⟨hst1, hx1⟩ := hst.drew
  have hst2 : RSt G σ1 a w.drew e := ⟨hst1.heap, ⟨by
    show (σ.tmps.map _).length = _
    simpa using hst1.tmps.1, fun i v u hv hu => by
    simp only [σ1, List.getElem?_map] at hv
    obtain ⟨v', hv', rfl⟩ := Option.map_eq_some_iff.1 hv
    exact (hst1.tmps.2 i v' u hv' hu).demote _⟩, hst1.defs, hst1.defsN, hst1.cur⟩
  have h0 : ∀ vals b, stL ops.toList (q + 1) vals b (fun j => decide (j < 0)) = b := fun vals b => by
    refine st_ext rfl rfl rfl fun t => ?_
    rw [stL_get]
    cases b.tmps[t]? with
    | none => rfl
    | some v => cases own ops.toList (q + 1) t <;> simp
  obtain ⟨vals, _, hv, hk⟩ := evQs_vals hok hql (n := q) (by omega) σ1 _ q 0 (fun _ => .bad) (by omega) (by rw [h0]; simpa using h)
  unfold LayC at hk
  split at hk
  · rename_i t hop
    split at hk
    · rename_i cs hz
      obtain ⟨hcls, hk⟩ := hk
      let X : Heap := [some (.cells t cs)]
      have hX : ∀ k, heapCls X k = false := fun k => by
        show ((cs.any (V.hasCls k)) || false) = false
        rw [noCls_any hcls k]; rfl
      let vals1 : Nat → V := fun j => if j = q then .ptr σ.H.length 0 else vals j
      have hput : ((({ stL ops.toList (q + 1) vals σ1 (fun j => decide (j < q)) with H := (stL ops.toList (q + 1) vals σ1 fun j => decide (j < q)).H ++ X } : St)).put oc.dst (.ptr (stL ops.toList (q + 1) vals σ1 fun j => decide (j < q)).H.length 0)) =
          stL ops.toList (q + 1) vals1 (baseC σ1 X true) fun j => decide (j < q + 1) := by
        have e1 : (({ stL ops.toList (q + 1) vals σ1 (fun j => decide (j < q)) with H := (stL ops.toList (q + 1) vals σ1 fun j => decide (j < q)).H ++ X } : St)) = stL ops.toList (q + 1) vals (baseC σ1 X true) fun j => decide (j < q) := rfl
        have e2 : stL ops.toList (q + 1) vals (baseC σ1 X true) (fun j => decide (j < q)) = stL ops.toList (q + 1) vals1 (baseC σ1 X true) fun j => decide (j < q) := stL_congr fun l hl => by
          have : l ≠ q := by simp at hl; omega
          simp [vals1, this]
        have e3 : V.ptr (stL ops.toList (q + 1) vals σ1 fun j => decide (j < q)).H.length 0 = vals1 q := by simp [vals1, stL, σ1]
        rw [e1, e2, e3, stL_put hok vals1 _ _ (by omega) hoc]
        congr 1
        funext j
        by_cases hj : j = q
        · simp [hj]
        · simp only [hj, decide_false, Bool.or_false, decide_eq_decide]
          omega
      rw [hput] at hk
      have hlow : ∀ n, n ≤ q → ∀ b, stL ops.toList (q + 1) vals1 b (fun l => decide (l < n)) = stL ops.toList (q + 1) vals b fun l => decide (l < n) := fun n hn b => stL_congr fun l hl => by
        have hl' : l < n := by simpa using hl
        have : l ≠ q := by omega
        simp [vals1, this]
      have hvq : vals1 q = .ptr σ.H.length 0 := by simp [vals1]
      have := draw_a (ro := σ.cur.map e.ρ) hok hql (c := q) (by omega) hoc hg (σ := σ1) (vals := vals1) (X := X) (Q := fun x a' w' => ∃ σ' e', Φ x σ' ∧ σ'.cur = σ.cur ∧ RSt G σ' a' w' e' ∧ Ext σ.H w e σ'.H w' e') (w0 := w) (e0 := e)
        (by simp only [σ1, List.map_map]; exact List.map_congr_left fun v _ => demote_demote _ v) hX (by rw [hvq]; rfl)
        (fun σ' hH hops ro act w e hst => by
          refine (evOp_sound (k := fun r τ => vals1 q = V.demote (dq ops.toList σ1.H) r ∧ τ = { σ' with H := σ1.H ++ X }) hst ?_)
          simp only [evOp, hop, hz]
          rw [hH]
          exact ⟨hvq, rfl⟩)
        (fun j o hj hne ho => by
          rw [hlow j (by omega)]
          have : vals1 j = vals j := by simp [vals1, hne]
          rw [this]
          exact hv j o (by omega) (by omega) ho)
        hk (fun σ' a' w' e' h1 h2 h3 h4 => ⟨σ', e', h1, h2, h3, h4⟩)
        ops.size (Array.replicate ops.size false) a w.drew e (by simp) (fun j _ hj => by
          have hj' : j < ops.size := by simpa using hj
          simp [hj']) (fun i o hi hL => by
          exfalso
          have hi' : i < ops.size := by have := (List.getElem?_eq_some_iff.1 hi).1; simpa using this
          simp [hi'] at hL) (by simp) (by
          have hcf : (Array.replicate ops.size false).getD q false = false := by
            by_cases hh : q < ops.size <;> simp [hh]
          have hLf : (fun j => (Array.replicate ops.size false).getD j false) = fun j => decide (j < 0) := by
            funext j
            by_cases hj : j < ops.size <;> simp [hj]
          rw [hcf, hLf, h0]
          exact hst2) (by
          have hcf : (Array.replicate ops.size false).getD q false = false := by
            by_cases hh : q < ops.size <;> simp [hh]
          rw [hcf]
          exact hx1)
      simpa using this
    · exact hk.elim
  · exact hk.elim

/-- The same, for reduction. -/
def LayC2 (P : Program) (o : Oper) (s : S2) (K : V → Heap → Prop) : Prop :=
  match o.op with
  | .alloc t => match zeroOf P t with
    | some cs => grd (cs.all fun v => !v.isCls) (K (.ptr s.H.length 0) [some (.cells t cs)])
    | none => False
  | _ => False

theorem wpc_drawA2 {id : Nat} {ops : Array Oper} {Φ : Exit → S2 → Prop} {s : S2} (q : Nat) (oc : Oper) (hm : P.follows .mixedOrders = true) (hql : q + 1 ≤ ops.toList.length) (hok : drawOk ops.toList (q + 1) = true)
    (hoc : ops.toList[q]? = some oc) (hg : oc.guard = none) (hw : s.Wf)
    (h : evQs2 P G ops.toList (ops.toList.take q) (s.dem (dq ops.toList s.H)) fun s1 => LayC2 P oc s1 fun u X => put2 (s1.setH (s1.H ++ X)) oc.dst u fun s2 =>
      evOps2 P G ops.toList (ops.toList.drop (q + 1)) s2 (Φ .normal)) : WPc P G (.region id ops true) (toΦ s.n Φ) s.st := by
  refine wpc_drawA q oc hm hql hok hoc hg ?_
  have hd := S2.dem_st (s := s) (dq ops.toList s.H)
  have hn : (s.dem (dq ops.toList s.H)).n = s.n := by unfold S2.dem; split <;> rfl
  have := evQs2_imp (K := fun σ1 => LayC P G ops.toList oc σ1 fun u X =>
      evOps P G ops.toList (ops.toList.drop (q + 1)) (({ σ1 with H := σ1.H ++ X } : St).put oc.dst u) (toΦ s.n Φ .normal)) s.n
    (fun s1 hw1 hn1 h1 => by
      unfold LayC2 at h1
      unfold LayC
      split at h1
      · rename_i t ho
        split at h1
        · rename_i cs hz
          try simp only [ho, hz]
          rw [grd_iff] at h1
          refine ⟨h1.1, ?_⟩
          have hk := h1.2
          have hwX : (s1.setH (s1.H ++ [some (.cells t cs)])).Wf := by rw [S2.setH_eq]; exact ⟨hw1.n, hw1.d⟩
          obtain ⟨s2, e1, e2, e3, e4⟩ := put2_imp hwX hk
          have hst : ({ s1.st with H := s1.st.H ++ [some (.cells t cs)] } : St) = (s1.setH (s1.H ++ [some (.cells t cs)])).st := by rw [S2.setH_eq]; rfl
          show evOps P G ops.toList (ops.toList.drop (q + 1)) (({ s1.st with H := s1.st.H ++ [some (.cells t cs)] } : St).put oc.dst (.ptr s1.H.length 0)) _
          rw [hst, ← e1]
          have hn2 : s2.n = s.n := by rw [e3, S2.setH_eq]; exact hn1
          exact evOps2_imp s.n (fun s'' hw'' hn'' h'' => ⟨s'', rfl, hw'', hn'', h''⟩) _ s2 e2 hn2 e4
        · exact h1.elim
      · exact h1.elim) _ _ (S2.dem_wf hw _) hn h
  rw [hd] at this
  exact this

end Go.Abs

/-! Row -/
/- From contracts to rows. -/
namespace Go.Abs
open Go.RowKit Go.ChangeShapes Go.WideShapes Go.ChangeAt

variable {P : Program} {G : Nat → Option (List V)}

theorem Ext.below {w w' : World} {e e' : Env} {H' : Heap} (h : Ext [] w e H' w' e') (hs : ∀ c b o, ¬ e.Sp c b o) : Below w.heap.size w w' :=
  ⟨h.os, h.tape, h.output, h.size, fun k hk => h.block k hk (fun id hl => by obtain ⟨b, hb⟩ := hl; simp at hb) fun c o => hs c k o⟩

/-- An environment that knows of nothing. -/
def Env.none_ : Env := { N := 0, ρ := fun _ => 0, RO := fun _ _ => False, Sp := fun _ _ _ => False }

theorem rheap_none (w : World) : RHeap (fun _ => none) [] w Env.none_ :=
  ⟨rfl, fun id b hb => by simp at hb, fun i j hi => by obtain ⟨b, hb⟩ := hi; simp at hb, fun b o h => h.elim, fun id o hl => by obtain ⟨b, hb⟩ := hl; simp at hb, fun c b o h => h.elim, fun _ _ _ _ h => h.elim, fun g cs h => by cases h⟩

/-- A law of plain values. -/
theorem walk_of {f : FuncId} {us : List Value} {Ψ : V → Prop} {r : Value} (hr : ∀ v, Ψ v → v = .im r) (h : Call2 P (fun _ => none) f (us.map V.im) [] fun v H' => H' = [] ∧ Ψ v) (w : World) :
    Calls P f us.toArray w fun en w' => en = .returned r ∧ Below w.heap.size w w' := by
  have hargs : Reps w Env.none_ (us.map V.im) us := ⟨by simp, fun i v u hv hu => by
    rw [List.getElem?_map, hu] at hv
    simp only [Option.map_some, Option.some.injEq] at hv
    subst hv
    exact repF_im _ _ _⟩
  refine callsIn_wide.1 (CallsIn.mono (h.2 w Env.none_ us (rheap_none w) hargs) ?_)
  rintro en w' ⟨v, x, H', e', rfl, ⟨rfl, hΨ⟩, _, hv, hx⟩
  have := hr x hΨ
  subst this
  exact ⟨by rw [rep_im hv], hx.below fun _ _ _ h => h⟩

/-- An environment that may read all that is there. -/
def Env.all (w : World) : Env := { N := 0, ρ := fun _ => 0, RO := fun b o => (cel w b o).isSome = true, Sp := fun _ _ _ => False }

theorem rheap_all {G : Nat → Option (List V)} (w : World) (hG : ∀ g cs, G g = some cs → Rep w (Env.all w) (.rp cs) (.pointer (some ⟨g, 0, none⟩))) : RHeap G [] w (Env.all w) :=
  ⟨rfl, fun id b hb => by simp at hb, fun i j hi => by obtain ⟨b, hb⟩ := hi; simp at hb, fun b o h => h, fun id o hl => by obtain ⟨b, hb⟩ := hl; simp at hb, fun c b o h => h.elim, fun _ _ _ _ h => h.elim, hG⟩

/-- A law of values that are there, and of package variables. -/
theorem walk_all {G : Nat → Option (List V)} {f : FuncId} {vs : List V} {us : List Value} {Ψ : V → Prop} {r : Value} (hr : ∀ v, Ψ v → v = .im r) (w : World)
    (hG : ∀ g cs, G g = some cs → Rep w (Env.all w) (.rp cs) (.pointer (some ⟨g, 0, none⟩))) (hargs : Reps w (Env.all w) vs us)
    (h : Call2 P G f vs [] fun v H' => H' = [] ∧ Ψ v) :
    Calls P f us.toArray w fun en w' => en = .returned r ∧ Below w.heap.size w w' := by
  refine callsIn_wide.1 (CallsIn.mono (h.2 w (Env.all w) us (rheap_all w hG) hargs) ?_)
  rintro en w' ⟨v, x, H', e', rfl, ⟨rfl, hΨ⟩, _, hv, hx⟩
  have := hr x hΨ
  subst this
  exact ⟨by rw [rep_im hv], hx.below fun _ _ _ h => h⟩

theorem reps_im (w : World) (e : Env) (us : List Value) : Reps w e (us.map V.im) us := ⟨by simp, fun i v u hv hu => by
    rw [List.getElem?_map, hu] at hv
    simp only [Option.map_some, Option.some.injEq] at hv
    subst hv
    exact repF_im _ _ _⟩

/-- A plain cell as it stands. -/
def plainV : Value → Option V
  | .int k n => some (.int k n)
  | .bool b => some (.bool b)
  | .string s => some (.str s.data.toList)
  | _ => none

theorem rep_plain {w : World} {e : Env} {u : Value} {v : V} (h : plainV u = some v) : Rep w e v u := by
  cases u with
  | int k n => cases h; exact .im _
  | bool b => cases h; exact .im _
  | string s => cases h; exact .str s.data.toList
  | _ => cases h

/-- A package variable of plain cells. -/
theorem rep_glob {w : World} {g : Nat} {cs : List V} (us : Nat → Value) (h : ∀ (j : Nat) (v : V), cs[j]? = some v → w.cell? ⟨g, j, none⟩ = some (us j) ∧ plainV (us j) = some v) :
    Rep w (Env.all w) (.rp cs) (.pointer (some ⟨g, 0, none⟩)) :=
  .rp cs g 0 us (fun j v hv => by
    have h1 : cel w g (0 + j) = some (us j) := by rw [Nat.zero_add]; exact (h j v hv).1
    exact ⟨h1, by show (cel w g (0 + j)).isSome = true; rw [h1]; rfl⟩) (fun j v hv => rep_plain (h j v hv).2)

theorem wf_i64 {n : Int} (h : (Lit.int .i64 n).wf = true) : -9223372036854775808 ≤ n ∧ n ≤ 9223372036854775807 := by
  simp only [Lit.wf, Bool.and_eq_true, decide_eq_true_eq] at h
  exact h

section
variable {H : Type} {enc : TypeId × Value → H}
/-- The row's end, where nothing that was there has turned. -/
theorem post_below {f : Func} {s : ChangeSpec} {apart fresh handsOn again : Bool} {W W' : World} {args : Array Value} {v : Value} {ds gs : List (DataW H)} {before pa pv : List MemPlace}
    (hW : DataW.Whole enc P f.params.toList s.vars apart W args.toList ds gs before)
    (hres : ∀ (b : Nat) (sp : Nat → Bool) (hd : Bool), DataW.TrodAll enc P W' b sp hd f.resultTypes.toList (v.resultList f.resultTypes.size) (s.fn H (ds ++ gs)).results [])
    (hargs : ∀ sp : Nat → Bool, (∀ p ∈ before, sp p.block = true) → DataW.TrodAll enc P W' 0 sp true f.params.toList args.toList (s.fn H (ds ++ gs)).args pa)
    (hvars : ∀ sp : Nat → Bool, (∀ p ∈ before, sp p.block = true) → DataW.TrodVars enc P W' sp s.vars (s.fn H (ds ++ gs)).vars pv)
    (hps : before = pa ++ pv) (hB : Below W.heap.size W W')
    (hok : ∀ (j : Nat) (t : TypeId) (r : Value), f.resultTypes[j]? = some t → (v.resultList f.resultTypes.size)[j]? = some r → Value.okWide P W' .any 0 t r) :
    s.post enc P f apart fresh handsOn again W args v W' := by
  have hlt : ∀ p ∈ before, p.block < W.heap.size := fun p hp => hW.lt p hp
  have hold : ∀ p ∈ before, (fun b => decide (b < W.heap.size)) p.block = true := fun p hp => by simpa using hlt p hp
  refine ⟨ds, gs, before, [], pa, pv, hW, hres _ _ _, hargs _ hold, hvars _ hold, World.keptBut_mono (fun p hp => ⟨hp, ?_⟩) (hB.frame (· ∈ before)), fun _ => ?_⟩
  · rw [hps, List.mem_append] at hp
    exact Or.inr hp
  · obtain ⟨_, _, _, _, _, hz, hn⟩ := hW
    refine ⟨hok, _, _, ([] ++ pa) ++ pv, ⟨[] ++ pa, pv, trodAll_append (hargs _ (fun _ _ => rfl)) (hres _ _ _), hvars _ (fun _ _ => rfl), rfl, ?_, ?_⟩, ?_⟩
    · intro b off hp
      have hp' : MemPlace.cell b off ∈ before := by rw [hps]; simpa using hp
      rw [hB.frozen (p := ⟨b, off, none⟩) (hlt _ hp')]
      exact hz b off hp'
    · intro ha
      have := hn ha
      rw [hps] at this
      simpa using this
    · intro p hp _
      rw [hps]
      simpa using hp
end

end Go.Abs

/-! Open -/
/- Arguments of data: opened by their types. -/
namespace Go.Abs
open Go.RowKit Go.ChangeShapes Go.WideShapes Go.ChangeAt

variable {P : Program}

/-- The fields' cells, one behind the other. -/
def ShFs (sh : TypeId → List V → Prop) : List Field → List V → Prop
  | [], vs => vs = []
  | f :: fs, vs => ∃ p q, sh f.type p ∧ ShFs sh fs q ∧ vs = p ++ q

/-- The shapes of data: what the cells of a type may hold. -/
def Sh (P : Program) : Nat → TypeId → List V → Prop
  | 0, _, _ => False
  | n + 1, t, vs => match P.underlying t with
    | some (.int k) => ∃ x, vs = [.im (.int k x)] ∧ (Lit.int k x).wf = true
    | some .bool => ∃ b, vs = [.im (.bool b)]
    | some .string => ∃ l : List UInt8, vs = [.str l] ∧ l.length ≤ reachBytes
    | some (.slice e) => ∃ rows, vs = [.dat (P.cellsOf e) rows .no] ∧ rows.length * P.bytesOf e ≤ reachBytes ∧ ∀ r ∈ rows, Sh P n e r
    | some (.struct fs) => ShFs (Sh P n) fs.toList vs
    | _ => False

def contig (P : Program) : Nat → Nat → List Field → Bool
  | o, total, [] => Nat.beq o total
  | o, total, f :: fs => Nat.beq f.offset o && contig P (o + P.cellsOf f.type) total fs

/-- Types that are opened. -/
def plainT (P : Program) : Bool → Nat → TypeId → Bool
  | _, 0, _ => false
  | sl, n + 1, t => match P.underlying t with
    | some (.int _) => Nat.beq (P.cellsOf t) 1
    | some .bool => Nat.beq (P.cellsOf t) 1
    | some .string => Nat.beq (P.cellsOf t) 1
    | some (.slice e) => sl && Nat.beq (P.cellsOf t) 1 && Nat.ble 1 (P.cellsOf e) && plainT P sl n e
    | some (.struct fs) => contig P 0 (P.cellsOf t) fs.toList && fs.toList.all fun f => plainT P sl n f.type
    | _ => false

def RepL (w : World) (e : Env) (vs : List V) (us : List Value) : Prop := vs.length = us.length ∧ ∀ (i : Nat) (v : V) (u : Value), vs[i]? = some v → us[i]? = some u → Rep w e v u

theorem RepL.append {w : World} {e : Env} {vs vs' : List V} {us us' : List Value} (h : RepL w e vs us) (h' : RepL w e vs' us') : RepL w e (vs ++ vs') (us ++ us') := by
  refine ⟨by rw [List.length_append, List.length_append, h.1, h'.1], fun i v u hv hu => ?_⟩
  by_cases hi : i < vs.length
  · rw [List.getElem?_append_left hi] at hv
    rw [List.getElem?_append_left (by rw [← h.1]; exact hi)] at hu
    exact h.2 i v u hv hu
  · rw [List.getElem?_append_right (by omega)] at hv
    rw [List.getElem?_append_right (by rw [← h.1]; omega), ← h.1] at hu
    exact h'.2 _ v u hv hu

theorem RepL.one {w : World} {e : Env} {v : V} {u : Value} (h : Rep w e v u) : RepL w e [v] [u] := ⟨rfl, fun i v' u' hv hu => by
  cases i with
  | zero => simp at hv hu; subst hv; subst hu; exact h
  | succ i => simp at hv⟩

theorem choose_rows {Q : Nat → List V → Prop} : ∀ (n : Nat), (∀ i, i < n → ∃ r, Q i r) → ∃ rows : List (List V), rows.length = n ∧ ∀ (i : Nat) (r : List V), rows[i]? = some r → Q i r
  | 0, _ => ⟨[], rfl, fun i r h => by simp at h⟩
  | n + 1, h => by
    obtain ⟨rows, hl, hq⟩ := choose_rows n fun i hi => h i (by omega)
    obtain ⟨r, hr⟩ := h n (by omega)
    refine ⟨rows ++ [r], by simp [hl], fun i r' hr' => ?_⟩
    by_cases hi : i < rows.length
    · rw [List.getElem?_append_left hi] at hr'
      exact hq i r' hr'
    · rw [List.getElem?_append_right (by omega)] at hr'
      have : i = n := by
        have := (List.getElem?_eq_some_iff.1 hr').1
        simp at this
        omega
      subst this
      rw [hl, Nat.sub_self] at hr'
      simp at hr'
      subst hr'
      exact hr

variable {H : Type} {enc : TypeId × Value → H}

theorem mem_weightsAll {e : TypeId} {n : Nat} : ∀ {l : List (DataW H)} {i : Nat} {d : DataW H}, l[i]? = some d → n ∈ d.weights P e → n ∈ DataW.weightsAll P e l
  | [], i, d, h, _ => by simp at h
  | d0 :: l, 0, d, h, hn => by
    simp only [List.getElem?_cons_zero, Option.some.injEq] at h
    subst h
    simp [DataW.weightsAll, hn]
  | d0 :: l, i + 1, d, h, hn => by
    simp only [DataW.weightsAll, List.mem_append]
    exact .inr (mem_weightsAll (i := i) (by simpa using h) hn)

theorem mem_weightsEach {n : Nat} : ∀ {ts : List TypeId} {l : List (DataW H)} {i : Nat} {t : TypeId} {d : DataW H}, ts[i]? = some t → l[i]? = some d → n ∈ d.weights P t → n ∈ DataW.weightsEach P ts l
  | [], _, i, t, d, h, _, _ => by simp at h
  | _ :: _, [], i, t, d, _, h, _ => by simp at h
  | t0 :: ts, d0 :: l, 0, t, d, h, h2, hn => by
    simp only [List.getElem?_cons_zero, Option.some.injEq] at h h2
    subst h; subst h2
    simp [DataW.weightsEach, hn]
  | t0 :: ts, d0 :: l, i + 1, t, d, h, h2, hn => by
    simp only [DataW.weightsEach, List.mem_append]
    exact .inr (mem_weightsEach (i := i) (by simpa using h) (by simpa using h2) hn)

theorem open_fields {w : World} {n m : Nat} {sl : Bool} {total : Nat} (ih : ∀ (t : TypeId) (cs : List Value) (x : DataW H × List MemPlace), DataW.trod enc P w 0 (fun _ => true) true m t cs = some x → (∀ k ∈ x.1.weights P t, k ≤ reachBytes) → plainT P sl n t = true →
      ∃ vs, Sh P n t vs ∧ RepL w (Env.all w) vs cs) (cs : List Value) (hcs : cs.length = total) :
    ∀ (fs : List Field) (o : Nat), o ≤ total → contig P o total fs = true → fs.all (fun f => plainT P sl n f.type) = true →
      (∀ f ∈ fs, ∃ x, DataW.trod enc P w 0 (fun _ => true) true m f.type ((cs.drop f.offset).take (P.cellsOf f.type)) = some x ∧ ∀ k ∈ x.1.weights P f.type, k ≤ reachBytes) →
      (∀ f ∈ fs, f.offset + P.cellsOf f.type ≤ total) →
      ∃ vs, ShFs (Sh P n) fs vs ∧ RepL w (Env.all w) vs (cs.drop o)
  | [], o, _, hc, _, _, _ => by
    refine ⟨[], rfl, ?_⟩
    have : o = total := Nat.eq_of_beq_eq_true hc
    rw [this, ← hcs, List.drop_length]
    exact ⟨rfl, fun i v u h => by simp at h⟩
  | f :: fs, o, ho, hc, hp, htr, hle => by
    simp only [contig, Bool.and_eq_true, Nat.beq_eq] at hc
    obtain ⟨hoff, hc⟩ := hc
    simp only [List.all_cons, Bool.and_eq_true] at hp
    obtain ⟨x, hx, hxw⟩ := htr f (by simp)
    rw [hoff] at hx
    have hl := hle f (by simp)
    rw [hoff] at hl
    obtain ⟨p, hp1, hp2⟩ := ih f.type _ x hx hxw hp.1
    obtain ⟨q, hq1, hq2⟩ := open_fields ih cs hcs fs (o + P.cellsOf f.type) hl hc hp.2 (fun g hg => htr g (by simp [hg])) fun g hg => hle g (by simp [hg])
    refine ⟨p ++ q, ⟨p, q, hp1, hq1, rfl⟩, ?_⟩
    have : cs.drop o = (cs.drop o).take (P.cellsOf f.type) ++ cs.drop (o + P.cellsOf f.type) := by
      rw [← List.drop_drop, List.take_append_drop]
    rw [this]
    exact hp2.append hq2

theorem contig_le : ∀ (fs : List Field) (o total : Nat), contig P o total fs = true → o ≤ total ∧ ∀ f ∈ fs, f.offset + P.cellsOf f.type ≤ total
  | [], o, total, h => ⟨by have : o = total := Nat.eq_of_beq_eq_true h; omega, fun f hf => by cases hf⟩
  | f :: fs, o, total, h => by
    simp only [contig, Bool.and_eq_true, Nat.beq_eq] at h
    obtain ⟨h1, h2⟩ := contig_le fs _ total h.2
    refine ⟨by omega, fun g hg => ?_⟩
    rcases List.mem_cons.1 hg with rfl | hg
    · rw [h.1]; exact h1
    · exact h2 g hg

theorem open_trod {w : World} : ∀ (n : Nat) (sl : Bool) (m : Nat) (t : TypeId) (cs : List Value) (x : DataW H × List MemPlace), DataW.trod enc P w 0 (fun _ => true) true m t cs = some x → (∀ k ∈ x.1.weights P t, k ≤ reachBytes) → plainT P sl n t = true →
      ∃ vs, Sh P n t vs ∧ RepL w (Env.all w) vs cs
  | 0, _, _, _, _, _, _, _, hp => by simp [plainT] at hp
  | n + 1, sl, m, t, cs, x, h, hw, hp => by
    unfold plainT at hp
    split at hp
    · rename_i k hu
      obtain ⟨z, rfl, _, hwf⟩ := DataW.trod_int hu h
      exact ⟨[.im (.int k z)], by unfold Sh; rw [hu]; exact ⟨z, rfl, hwf⟩, .one (.im _)⟩
    · rename_i hu
      obtain ⟨b, rfl, _⟩ := DataW.trod_bool hu h
      exact ⟨[.im (.bool b)], by unfold Sh; rw [hu]; exact ⟨b, rfl⟩, .one (.im _)⟩
    · rename_i hu
      obtain ⟨s, rfl, rfl, hs⟩ := DataW.trod_string hu h
      have hl : s.data.toList.length ≤ reachBytes := hw _ (by simp [DataW.weights])
      exact ⟨[.str s.data.toList], by unfold Sh; rw [hu]; exact ⟨_, rfl, hl⟩, .one (.str s.data.toList)⟩
    · rename_i e hu
      simp only [Bool.and_eq_true, Nat.ble_eq, Nat.beq_eq] at hp
      obtain ⟨⟨⟨_, _⟩, hs1⟩, hpe⟩ := hp
      rcases DataW.trod_slice hu h with ⟨rfl, _⟩ | ⟨a, len, cap, elems, rest, m', _, rfl, rfl, _, hlc, hcm, hel, helem, hspare, _⟩
      · exact ⟨[.dat (P.cellsOf e) [] .no], by unfold Sh; rw [hu]; exact ⟨[], rfl, by simp, by simp⟩, .one (.nil _ _)⟩
      · by_cases hcap0 : cap = 0
        · have hl0 : len = 0 := by omega
          subst hcap0; subst hl0
          exact ⟨[.dat (P.cellsOf e) [] .no], by unfold Sh; rw [hu]; exact ⟨[], rfl, by simp, by simp⟩, .one (.nul _ _ a)⟩
        have ha : a.spot = none := by
          have first : ∀ (y : Option (DataW H × List MemPlace)) (z : DataW H × List MemPlace), y = some z → (w.cells? 0 (a.add (0 * P.cellsOf e)) (P.cellsOf e)).bind (DataW.trod enc P w 0 (fun _ => true) true m' e) = y → a.spot = none := by
            intro y z hy h1
            rw [hy] at h1
            obtain ⟨ci, hci, _⟩ := Option.bind_eq_some_iff.1 h1
            rw [Nat.zero_mul] at hci
            obtain ⟨_, hcl, hcc⟩ := World.cells?_some hci
            have hz := hcc 0 hs1
            rw [List.getElem?_eq_getElem (by omega : 0 < ci.length)] at hz
            have hz' : w.cell? a = some ci[0] := hz
            cases hs : a.spot with
            | none => rfl
            | some s =>
              unfold World.cell? at hz'
              rw [hs] at hz'
              cases hh : w.heap[a.block]? with
              | none => rw [hh] at hz'; cases hz'
              | some ob => rw [hh] at hz'; cases ob <;> cases hz'
          by_cases hl0 : len = 0
          · obtain ⟨hr1, hr2⟩ := hspare rfl
            have := hr2 0 (by omega)
            rw [hl0, Nat.add_zero, List.getElem?_eq_getElem (by omega : 0 < rest.length)] at this
            exact first _ _ rfl this
          · have := helem 0 (by omega)
            rw [List.getElem?_eq_getElem (by omega : 0 < elems.length)] at this
            exact first _ _ rfl this
        obtain ⟨b, o, spot⟩ := a
        simp only at ha
        subst ha
        have hwe : ∀ k ∈ DataW.weights P t (.slice (elems.map (·.1)) (rest.map (·.1))), k ≤ reachBytes := hw
        simp only [DataW.weights, hu, List.mem_cons, List.mem_append, List.length_map] at hwe
        have hbytes : len * P.bytesOf e ≤ reachBytes := by
          have := hwe _ (.inl rfl)
          rw [Nat.add_mul, hel] at this
          omega
        have each : ∀ i, i < len → ∃ r, Sh P n e r ∧ r.length = P.cellsOf e ∧ ∀ (j : Nat) (v : V), r[j]? = some v → ∃ u, cel w b (o + (i * P.cellsOf e + j)) = some u ∧ Rep w (Env.all w) v u := by
          intro i hi
          have h1 := helem i hi
          rw [List.getElem?_eq_getElem (by omega : i < elems.length)] at h1
          obtain ⟨ci, hci, hti⟩ := Option.bind_eq_some_iff.1 h1
          rw [addr_add] at hci
          obtain ⟨_, hcl, hcc⟩ := World.cells?_some hci
          obtain ⟨r, hr1, hr2⟩ := open_trod n sl m' e ci _ hti (fun k hk => hwe k (.inr (.inl (mem_weightsAll (i := i) (d := (elems[i]'(by omega)).1) (by simp [(by omega : i < elems.length)]) hk)))) hpe
          refine ⟨r, hr1, by rw [hr2.1, hcl], fun j v hv => ?_⟩
          have hj : j < ci.length := by rw [← hr2.1]; exact (List.getElem?_eq_some_iff.1 hv).1
          refine ⟨ci[j], ?_, hr2.2 j v ci[j] hv (by simp [hj])⟩
          have := hcc j (by omega)
          rw [addr_add, List.getElem?_eq_getElem hj] at this
          rw [← Nat.add_assoc]
          exact this
        obtain ⟨rows, hrl, hrows⟩ := choose_rows len each
        refine ⟨[.dat (P.cellsOf e) rows .no], ?_, .one ?_⟩
        · unfold Sh
          rw [hu]
          refine ⟨rows, rfl, by rw [hrl]; exact hbytes, fun r hr => ?_⟩
          obtain ⟨i, hi, rfl⟩ := List.getElem_of_mem hr
          exact (hrows i _ (by simp [hi])).1
        · have hat : ∀ (i j : Nat) (v : V), at2 rows i j = some v → ∃ u, cel w b (o + (i * P.cellsOf e + j)) = some u ∧ Rep w (Env.all w) v u := by
            intro i j v hv
            unfold at2 at hv
            obtain ⟨r, hr, hj⟩ := Option.bind_eq_some_iff.1 hv
            exact (hrows i r hr).2.2 j v hj
          have := Rep.dat (w := w) (e := Env.all w) (P.cellsOf e) rows .no b o cap (fun i j => (cel w b (o + (i * P.cellsOf e + j))).getD undef)
            (fun r hr => by
              obtain ⟨i, hi, rfl⟩ := List.getElem_of_mem hr
              exact (hrows i _ (by simp [hi])).2.1) (by omega) (by simp)
            (fun i j v hv => by
              obtain ⟨u, hu, _⟩ := hat i j v hv
              rw [hu]
              exact ⟨rfl, by show (cel w b _).isSome = true; rw [hu]; rfl⟩)
            (fun i j v hv => by
              obtain ⟨u, hu, hr⟩ := hat i j v hv
              rw [hu]
              exact hr)
          rwa [hrl] at this
    · rename_i fs hu
      simp only [Bool.and_eq_true] at hp
      obtain ⟨xs, m', _, rfl, hl, hxl, hf⟩ := DataW.trod_struct hu h
      have hwe : ∀ k ∈ DataW.weights P t (.agg (xs.map (·.1))), k ≤ reachBytes := hw
      simp only [DataW.weights, hu] at hwe
      obtain ⟨_, hle⟩ := contig_le fs.toList 0 _ hp.1
      obtain ⟨vs, h1, h2⟩ := open_fields (sl := sl) (n := n) (m := m') (total := P.cellsOf t) (fun t cs x => open_trod n sl m' t cs x) cs hl fs.toList 0 (Nat.zero_le _) hp.1 hp.2 (fun f hfm => by
        obtain ⟨i, hi, rfl⟩ := List.getElem_of_mem hfm
        have hi' : i < fs.size := by simpa using hi
        have := hf i fs[i] (by simp [hi'])
        rw [List.getElem?_eq_getElem (by omega : i < xs.length)] at this
        refine ⟨_, by simpa using this, fun k hk => hwe k (mem_weightsEach (i := i) (t := fs[i].type) (d := (xs[i]'(by omega)).1) ?_ ?_ (by simpa using hk))⟩
        · simp [hi']
        · simp [(by omega : i < xs.length)]) hle
      exact ⟨vs, by unfold Sh; rw [hu]; exact h1, by simpa using h2⟩
    · cases hp

/-- The shape of an argument. -/
def ShV (P : Program) (n : Nat) (t : TypeId) (x : V) : Prop :=
  match aggT P t with
  | true => ∃ vs, x = .agg vs ∧ Sh P n t vs
  | false => Sh P n t [x]

theorem cell_nospot {w : World} {r : Reach} {base : Nat} {u : TypeId} {a : Addr} {len cap : Nat} (h : Cell.okWide P w r base u (.slice (some a) len cap)) : a.spot = none := by
  have h' : Cell.ok P w r base u (.slice (some a) len cap) := by
    unfold Cell.okWide at h
    split at h <;> first | exact h | simp_all
  unfold Cell.ok at h'
  split at h' <;> first
    | (rename_i h2; cases h2; exact h'.2.2.2.1)
    | (rename_i h2; cases h2; done)
    | exact h'.elim
    | simp_all

theorem open_arg {w : World} {r : Reach} {base : Nat} {t : TypeId} {v : Value} {d : DataW H} {ps : List MemPlace} (n : Nat) (hok : Value.okWide P w r base t v) (h : DataW.Trod enc P w 0 (fun _ => true) true t v d ps)
    (hw : ∀ k ∈ d.weights P t, k ≤ reachBytes) (hp : plainT P true n t = true) : ∃ x : V, ShV P n t x ∧ RepF w (Env.all w) x v := by
  obtain ⟨m, hm⟩ := h
  cases hagg : aggT P t with
  | true =>
    have hcs : ∃ cs, v = .agg cs ∧ Row.okWide P w r base t cs := by
      unfold Value.okWide at hok
      unfold aggT at hagg
      split at hok
      · obtain ⟨cs, h1, _, h2⟩ := hok; exact ⟨cs, h1, h2⟩
      · obtain ⟨cs, h1, _, h2⟩ := hok; exact ⟨cs, h1, h2⟩
      · rename_i h1 h2
        split at hagg
        · rename_i hu; exact absurd hu (h1 _)
        · rename_i hu; exact absurd hu (h2 _ _)
        · cases hagg
    obtain ⟨cs, rfl, ts, _, _, hrow⟩ := hcs
    obtain ⟨vs, h1, h2⟩ := open_trod n true m t _ _ hm hw hp
    refine ⟨.agg vs, by unfold ShV; rw [hagg]; exact ⟨vs, rfl, h1⟩, .agg vs cs (by simpa [Value.cells] using h2.1) fun i x u hx hu => h2.2 i x u hx (by simpa [Value.cells] using hu), trivial⟩
  | false =>
    have hcell : Cell.okWide P w r base t v := by
      unfold Value.okWide at hok
      unfold aggT at hagg
      split at hok
      · rename_i hu; rw [hu] at hagg; cases hagg
      · rename_i hu; rw [hu] at hagg; cases hagg
      · exact hok
    have hcv : v.cells = #[v] := by
      cases v <;> first
        | rfl
        | (exfalso
           unfold Cell.okWide at hcell
           split at hcell <;> first | (simp_all; done) | skip
           all_goals (unfold Cell.ok at hcell; split at hcell <;> simp_all))
    rw [hcv] at hm
    obtain ⟨vs, h1, h2⟩ := open_trod n true m t _ _ hm hw hp
    obtain ⟨x, rfl⟩ : ∃ x, vs = [x] := List.length_eq_one_iff.1 (by simpa using h2.1)
    refine ⟨x, by unfold ShV; rw [hagg]; exact h1, h2.2 0 x v rfl rfl, ?_⟩
    cases n with
    | zero => exact h1.elim
    | succ n =>
      unfold Sh at h1
      split at h1
      · obtain ⟨_, h, _⟩ := h1; simp at h; subst h; cases v <;> trivial
      · obtain ⟨_, h⟩ := h1; simp at h; subst h; cases v <;> trivial
      · obtain ⟨_, h, _⟩ := h1; simp at h; subst h; cases v <;> trivial
      · obtain ⟨_, h, _⟩ := h1; simp at h; subst h; cases v <;> trivial
      · rename_i hu; unfold aggT at hagg; rw [hu] at hagg; cases hagg
      · exact h1.elim

def ShAll (P : Program) (n : Nat) : List TypeId → List V → Prop
  | [], xs => xs = []
  | t :: ts, xs => ∃ x r, ShV P n t x ∧ ShAll P n ts r ∧ xs = x :: r

theorem Reps.cons {w : World} {e : Env} {v : V} {u : Value} {vs : List V} {us : List Value} (h : RepF w e v u) (hs : Reps w e vs us) : Reps w e (v :: vs) (u :: us) :=
  ⟨by simp [hs.1], fun i v' u' hv hu => by
    cases i with
    | zero => simp at hv hu; subst hv; subst hu; exact h
    | succ i => exact hs.2 i v' u' (by simpa using hv) (by simpa using hu)⟩

theorem open_all {w : World} {r : Reach} {base : Nat} (n : Nat) : ∀ (ts : List TypeId) (vs : List Value) (ds : List (DataW H)) (ps : List MemPlace), (∀ t ∈ ts, plainT P true n t = true) → (∀ (i : Nat) (t : TypeId) (d : DataW H), ts[i]? = some t → ds[i]? = some d → ∀ k ∈ d.weights P t, k ≤ reachBytes) →
    (∀ (j : Nat) (t : TypeId) (v : Value), ts[j]? = some t → vs[j]? = some v → Value.okWide P w r base t v) →
    DataW.TrodAll enc P w 0 (fun _ => true) true ts vs ds ps → ∃ xs, ShAll P n ts xs ∧ Reps w (Env.all w) xs vs
  | [], [], [], ps, _, _, _, _ => ⟨[], rfl, rfl, fun i v u h => by simp at h⟩
  | [], [], _ :: _, ps, _, _, _, h => h.elim
  | [], _ :: _, _, ps, _, _, _, h => by cases h
  | t :: ts, [], _, ps, _, _, _, h => by cases h
  | t :: ts, v :: vs, [], ps, _, _, _, h => h.elim
  | t :: ts, v :: vs, d :: ds, ps, hp, hw, hok, ⟨p, q, h1, h2, he⟩ => by
    obtain ⟨x, hx1, hx2⟩ := open_arg n (hok 0 t v rfl rfl) h1 (hw 0 t d rfl rfl) (hp t (by simp))
    obtain ⟨xs, hs1, hs2⟩ := open_all n ts vs ds q (fun t ht => hp t (by simp [ht])) (fun i t d ht hd => hw (i + 1) t d (by simpa using ht) (by simpa using hd)) (fun j t v ht hv => hok (j + 1) t v (by simpa using ht) (by simpa using hv)) h2
    exact ⟨x :: xs, ⟨x, xs, hx1, hs1, rfl⟩, Reps.cons hx2 hs2⟩

/-- An argument reads again as it did. -/
theorem trod_back {t : TypeId} (hl : laidOutB P = true) (hr : P.readableRec t = true) (hrow : t < P.types.size) {W W' : World} {v : Value} {d : DataW H} {ps : List MemPlace}
    (h : DataW.Trod enc P W 0 (fun _ => true) true t v d ps) (hb : Below W.heap.size W W') (hlt : ∀ x ∈ ps, x.block < W.heap.size) (sp : Nat → Bool) (hs : ∀ p ∈ ps, sp p.block = true) : DataW.Trod enc P W' 0 sp true t v d ps :=
  WideElems.Trod_stays hl hr hrow h (fun x hx => hb.same (hlt x hx)) hs

theorem trodAll_back (hl : laidOutB P = true) : ∀ (ts : List TypeId), (∀ t ∈ ts, P.readableRec t = true ∧ t < P.types.size) → ∀ {W W' : World} (vs : List Value) (ds : List (DataW H)) (ps : List MemPlace),
    DataW.TrodAll enc P W 0 (fun _ => true) true ts vs ds ps → Below W.heap.size W W' → (∀ x ∈ ps, x.block < W.heap.size) → ∀ (sp : Nat → Bool), (∀ p ∈ ps, sp p.block = true) → DataW.TrodAll enc P W' 0 sp true ts vs ds ps
  | [], _, W, W', [], [], ps, h, _, _, _, _ => h
  | [], _, W, W', [], _ :: _, ps, h, _, _, _, _ => h.elim
  | [], _, W, W', _ :: _, _, ps, h, _, _, _, _ => by cases h
  | t :: ts, _, W, W', [], _, ps, h, _, _, _, _ => by cases h
  | t :: ts, _, W, W', v :: vs, [], ps, h, _, _, _, _ => h.elim
  | t :: ts, hr, W, W', v :: vs, d :: ds, ps, ⟨p, q, h1, h2, he⟩, hb, hlt, sp, hs => by
    subst he
    refine ⟨p, q, trod_back hl (hr t (by simp)).1 (hr t (by simp)).2 h1 hb (fun x hx => hlt x (by simp [hx])) sp (fun x hx => hs x (by simp [hx])), ?_, rfl⟩
    exact trodAll_back hl ts (fun t ht => hr t (by simp [ht])) vs ds q h2 hb (fun x hx => hlt x (by simp [hx])) sp (fun x hx => hs x (by simp [hx]))

end Go.Abs

/-! Law -/
/- A law over arguments of data: from its contract to the row's step. -/
namespace Go.Abs
open Go.RowKit Go.ChangeShapes Go.WideShapes Go.ChangeAt

variable {P : Program} {H : Type} {enc : TypeId × Value → H}

theorem calls_data {G : Nat → Option (List V)} {f : FuncId} {fn : Func} {s : ChangeSpec} {W : World} {base : Nat} {args : Array Value} {ds gs : List (DataW H)} {before : List MemPlace} (n : Nat) {tb : TypeId}
    (hW : DataW.Whole enc P fn.params.toList s.vars false W args.toList ds gs before) (hvars : s.vars = []) (hvt : s.plain.varTypes P = [])
    (hsz : (DataW.weightsEach P (fn.params.toList ++ s.plain.varTypes P) (ds ++ gs)).all (· ≤ reachBytes) = true)
    (hval : ∀ (j : Nat) t v, fn.params[j]? = some t → args[j]? = some v → Value.okWide P W .any base t v)
    (hlaid : laidOutB P = true) (hts : ∀ t ∈ fn.params.toList, plainT P true n t = true ∧ P.readableRec t = true ∧ t < P.types.size)
    (hres : fn.resultTypes = #[tb]) (htb : P.underlying tb = some .bool)
    (hfn : ds.length = fn.params.size → s.fn H ds = { results := [.lit (.bool true)], args := ds })
    (hG : ∀ g cs, G g = some cs → Rep W (Env.all W) (.rp cs) (.pointer (some ⟨g, 0, none⟩)))
    (walk : ∀ xs, ShAll P n fn.params.toList xs → Call2 P G f xs [] fun r H' => H' = [] ∧ r = .bool true) :
    Calls P f args W fun e W' => ∃ v, e = .returned v ∧ s.post enc P fn false true false false W args v W' := by
  have hW' := hW
  obtain ⟨p, q, hA, hV, rfl, hfz, hnd⟩ := hW
  rw [hvars] at hV
  obtain ⟨rfl, rfl⟩ := trodVars_none hV
  rw [hvt, List.append_nil, List.append_nil, List.all_eq_true] at hsz
  have hval' : ∀ (j : Nat) (t : TypeId) (v : Value), fn.params.toList[j]? = some t → args.toList[j]? = some v → Value.okWide P W .any base t v := fun j t v ht hv => hval j t v (by rwa [Array.getElem?_toList] at ht) (by rwa [Array.getElem?_toList] at hv)
  have hA0 : DataW.TrodAll enc P W 0 (fun _ => true) true fn.params.toList args.toList ds p := hA
  obtain ⟨xs, hxs, hreps⟩ := open_all n fn.params.toList args.toList ds p (fun t ht => (hts t ht).1)
    (fun i t d ht hd k hk => by simpa using hsz k (mem_weightsEach ht hd hk)) hval' hA0
  have hlen : ds.length = fn.params.size := by
    have : ∀ (ts : List TypeId) (vs : List Value) (ds : List (DataW H)) (p : List MemPlace), DataW.TrodAll enc P W 0 (fun _ => true) true ts vs ds p → ds.length = ts.length := by
      intro ts
      induction ts with
      | nil => intro vs ds p h; cases vs with
        | nil => cases ds with
          | nil => rfl
          | cons d ds => exact h.elim
        | cons v vs => cases h
      | cons t ts ih => intro vs ds p h; cases vs with
        | nil => cases h
        | cons v vs => cases ds with
          | nil => exact h.elim
          | cons d ds =>
            obtain ⟨p1, q1, _, h2, _⟩ := h
            simp [ih vs ds q1 h2]
    simpa using this _ _ _ _ hA0
  have hlt : ∀ x ∈ p, x.block < W.heap.size := fun x hx => hW'.lt x (by simp [hx])
  have hw := walk_all (us := args.toList) (r := .bool true) (fun _ h => h) W hG hreps (walk xs hxs)
  rw [Array.toArray_toList] at hw
  refine hw.mono fun e W' ⟨he, hB⟩ => ?_
  subst he
  refine ⟨_, rfl, post_below (pa := p) (pv := []) hW' ?_ ?_ ?_ rfl hB (ok_one hres rfl (okWide_bool_mk htb _))⟩
  · intro b sp hd
    rw [List.append_nil, hfn hlen, hres]
    exact trodAll_cons_mk (shut_bool htb _) trodAll_mk0
  · intro sp hs
    rw [List.append_nil, hfn hlen]
    exact trodAll_back hlaid _ (fun t ht => (hts t ht).2) _ _ _ hA0 hB hlt sp (fun x hx => hs x (by simp [hx]))
  · intro sp _
    rw [hvars, List.append_nil, hfn hlen]
    rfl
end Go.Abs

/-! DrawE -/
/- Regions that draw their order, with an append that takes up spare places, and a new block whenever it comes up. -/
namespace Go.Abs
open Go.RowKit
set_option linter.unusedVariables false
set_option linter.unusedSimpArgs false

variable {P : Program} {G : Nat → Option (List V)}

/-- The values, once the append has been carried out. -/
def vz (vals : Nat → V) (km : Nat) (b : Bool) (j : Nat) : V := if b then V.demote (· == km) (vals j) else vals j

theorem vz_or (vals : Nat → V) (km : Nat) (b : Bool) (j : Nat) : vz vals km b j = vals j ∨ vz vals km b j = V.demote (· == km) (vals j) := by
  cases b
  · exact .inl rfl
  · exact .inr rfl
theorem demote_vz {p : Nat → Bool} {vals : Nat → V} {km : Nat} {b : Bool} {j : Nat} (h : V.demote p (vals j) = vals j) : V.demote p (vz vals km b j) = vz vals km b j := by
  unfold vz
  split
  · generalize vals j = v at h
    cases v with
    | dat es rows fl => cases fl with
      | cls c =>
        by_cases hk : (c == km) = true
        · simp [V.demote, hk]
        · have hk' : V.demote (· == km) (.dat es rows (.cls c)) = .dat es rows (.cls c) := by simp [V.demote, hk]
          rw [hk']; exact h
      | _ => exact h
    | _ => exact h
  · exact h

theorem rst_put_demote {σ : St} {d : Option Tmp} {u : V} {a : Act} {w : World} {e : Env} (p : Nat → Bool) (h : RSt G (σ.put d u) a w e) : RSt G (σ.put d (V.demote p u)) a w e := by
  cases d with
  | none => exact h
  | some d =>
    refine ⟨h.heap, ⟨by simpa [St.put] using h.tmps.1, fun i v x hv hx => ?_⟩, h.defs, h.defsN, h.cur⟩
    simp only [St.put] at hv
    by_cases hdi : d = i
    · subst hdi
      have hi : d < σ.tmps.length := by
        have := (List.getElem?_eq_some_iff.1 hv).1
        simpa using this
      rw [List.getElem?_set_self hi] at hv
      obtain rfl := Option.some.inj hv
      exact (h.tmps.2 d u x (by simp only [St.put]; rw [List.getElem?_set_self hi]) hx).demote p
    · rw [List.getElem?_set_ne hdi] at hv
      exact h.tmps.2 i v x (by simp only [St.put]; rw [List.getElem?_set_ne hdi]; exact hv) hx

theorem draw_e {ops : List Oper} {q : Nat} (hok : DrawOk ops q) (hql : q ≤ ops.length) {c : Nat} {oc : Oper} (hcq : c < q) (hoc : ops[c]? = some oc) (hg : oc.guard = none) {m : Nat} {om : Oper} (hmq : m < q) (hmc : m ≠ c) (hom : ops[m]? = some om) (hgm : om.guard = none) (km : Nat)
    {σ : St} {vals : Nat → V} {k : St → Prop} {Q : Exit → Act → World → Prop} {ro : Option Nat} {X : Heap}
    (hd : σ.tmps.map (V.demote (dq ops σ.H)) = σ.tmps) (hX : ∀ k, heapCls X k = false) (hdc : V.demote (dq ops σ.H) (vals c) = vals c)
    (hcall : ∀ σ', σ'.H = σ.H → ∀ ro a w e, RSt G σ' a w e →
      OpWp P G ro oc σ' a w e fun v τ => vals c = V.demote (dq ops σ.H) v ∧ τ = { σ' with H := σ.H ++ X })
    (hkill : ∀ σ', (∀ x ∈ om.op.operands, σ'.ev x = (stL ops q vals σ fun l => decide (l < m)).ev x) → ∀ ro a w e, RSt G σ' a w e →
      OpWp P G ro om σ' a w e fun v τ => vals m = V.demote (· == km) (V.demote (dq ops σ.H) v) ∧ τ = { σ' with tmps := σ'.tmps.map (V.demote (· == km)), H := demoteH (· == km) σ'.H })
    (hdm : V.demote (dq ops σ.H) (vals m) = vals m) (hdk : σ.tmps.map (V.demote (· == km)) = σ.tmps) (hHk : demoteH (· == km) σ.H = σ.H) (hXk : demoteH (· == km) X = X) (hck : V.demote (· == km) (vals c) = vals c)
    (hlook : ∀ j o t l, j < q → j ≠ m → ops[j]? = some o → t ∈ o.looksAt ops.toArray → own ops q t = some l → (∃ v0, σ.tmps[t]? = some v0) → V.demote (· == km) (vals l) = vals l)
    (hvals : ∀ j o, j < q → j ≠ c → j ≠ m → ops[j]? = some o → QC P G ops o (stL ops q (vz vals km (decide (m < j))) σ fun l => decide (l < j)) (vals j))
    (hk : evOps P G ops (ops.drop q) (stL ops q (vz vals km true) (baseC σ X true) fun j => decide (j < q)) k) {w0 : World} {e0 : Env}
    (hQ : ∀ σ' a' w' e', k σ' → σ'.cur = σ.cur → RSt G σ' a' w' e' → Ext σ.H w0 e0 σ'.H w' e' → Q .normal a' w') :
    ∀ (fuel : Nat) (listed : Array Bool) (a : Act) (w : World) (e : Env), listed.size = ops.length → (∀ j, q ≤ j → j < ops.length → listed.getD j true = false) → Closed ops (fun j => listed.getD j false) →
    (ops.length ≤ fuel + (List.range q).countP (fun j => listed.getD j false)) →
    RSt G (stL ops q (vz vals km (listed.getD m false)) (baseC σ X (listed.getD c false)) fun j => listed.getD j false) a w e → Ext σ.H w0 e0 (baseC σ X (listed.getD c false)).H w e → wpAnyIn (FW ro) 0 P .any ops.toArray Q fuel listed a w := by
  have hdq : ∀ b, dq ops (baseC σ X b).H = dq ops σ.H := by
    intro b
    cases b with
    | false => rfl
    | true => exact dq_app hX
  have hdem : ∀ b z L, (stL ops q (vz vals km z) (baseC σ X b) L).tmps.map (V.demote (dq ops (baseC σ X b).H)) = (stL ops q (vz vals km z) (baseC σ X b) L).tmps := by
    intro b z L
    rw [hdq]
    refine List.ext_getElem? fun t => ?_
    rw [List.getElem?_map, stL_get, baseC_tmps]
    cases hv : σ.tmps[t]? with
    | none => rfl
    | some v =>
      simp only [Option.map_some, Option.some.injEq]
      have hvd : V.demote (dq ops σ.H) v = v := by
        have : (σ.tmps.map (V.demote (dq ops σ.H)))[t]? = σ.tmps[t]? := by rw [hd]
        rw [List.getElem?_map, hv] at this
        simpa using this
      cases hw : own ops q t with
      | none => exact hvd
      | some j =>
        obtain ⟨hj, o, ho, _⟩ := own_some hw
        simp only
        split
        · refine demote_vz ?_
          by_cases hjc : j = c
          · rw [hjc]; exact hdc
          · by_cases hjm : j = m
            · rw [hjm]; exact hdm
            · exact (hvals j o hj hjc hjm ho).1
        · exact hvd
  have hcur : ∀ b, (baseC σ X b).cur = σ.cur := fun b => by cases b <;> rfl
  intro fuel
  induction fuel with
  | zero =>
    intro listed a w e hs htail hc hf h hx
    have hcnt : (List.range q).countP (fun j => listed.getD j false) ≤ q := by
      have := List.countP_le_length (p := fun j => listed.getD j false) (l := List.range q)
      simpa using this
    have hqe : q = ops.length := by omega
    have hallq : ∀ j, j < q → listed.getD j false = true := by
      have : (List.range q).countP (fun j => listed.getD j false) = (List.range q).length := by rw [List.length_range]; omega
      rw [List.countP_eq_length] at this
      exact fun j hj => this j (List.mem_range.2 hj)
    rw [hallq c hcq, hallq m hmq] at h
    rw [hallq c hcq] at hx
    have hst : (stL ops q (vz vals km true) (baseC σ X true) fun j => listed.getD j false) = stL ops q (vz vals km true) (baseC σ X true) fun j => decide (j < q) := by
      refine st_ext rfl rfl rfl fun t => ?_
      rw [stL_get, stL_get]
      congr 1
      funext v
      cases hw : own ops q t with
      | none => rfl
      | some j =>
        obtain ⟨hj, _⟩ := own_some hw
        simp [hallq j hj, hj]
    rw [hst] at h
    refine draw_tail hok 0 q listed _ a w e (Nat.le_refl _) hql (by omega) hs (fun j hj => ?_) h hk fun σ' a' w' e' h1 h2 h3 h4 => hQ σ' a' w' e' h1 (h2.trans (hcur true)) h3 (hx.trans h4)
    have hjs : j < listed.size := by omega
    have := hallq j (by omega)
    simp [hjs] at this ⊢
    rw [this]
    simp; omega
  | succ fuel ih =>
    intro listed a w e hs htail hc hf h hx
    by_cases hallq : ∀ j, j < q → listed.getD j false = true
    · rw [hallq c hcq, hallq m hmq] at h
      rw [hallq c hcq] at hx
      have hst : (stL ops q (vz vals km true) (baseC σ X true) fun j => listed.getD j false) = stL ops q (vz vals km true) (baseC σ X true) fun j => decide (j < q) := by
        refine st_ext rfl rfl rfl fun t => ?_
        rw [stL_get, stL_get]
        congr 1
        funext v
        cases hw : own ops q t with
        | none => rfl
        | some j =>
          obtain ⟨hj, _⟩ := own_some hw
          simp [hallq j hj, hj]
      rw [hst] at h
      have hcnt : (List.range q).countP (fun j => listed.getD j false) ≤ q := by
        have := List.countP_le_length (p := fun j => listed.getD j false) (l := List.range q)
        simpa using this
      refine draw_tail hok (fuel + 1) q listed _ a w e (Nat.le_refl _) hql (by omega) hs (fun j hj => ?_) h hk fun σ' a' w' e' h1 h2 h3 h4 => hQ σ' a' w' e' h1 (h2.trans (hcur true)) h3 (hx.trans h4)
      have hjs : j < listed.size := by omega
      by_cases hjq : j < q
      · have := hallq j hjq
        simp [hjs] at this ⊢
        rw [this]
        simp; omega
      · rw [htail j (by omega) hj]
        simp; omega
    · -- the least that has not been carried out may come up
      have hleast : ∃ j, j < q ∧ listed.getD j false = false ∧ ∀ l, l < j → listed.getD l false = true := by
        have : ∃ j, j < q ∧ listed.getD j false = false := by
          by_cases hh : ∃ j, j < q ∧ listed.getD j false = false
          · exact hh
          · exact absurd (fun j hj => by
              cases hb : listed.getD j false with
              | true => rfl
              | false => exact absurd ⟨j, hj, hb⟩ hh) hallq
        obtain ⟨j, hj⟩ := this
        induction j using Nat.strongRecOn with
        | _ j ihj =>
          by_cases hl : ∀ l, l < j → listed.getD l false = true
          · exact ⟨j, hj.1, hj.2, hl⟩
          · have : ∃ l, l < j ∧ listed.getD l false = false := by
              by_cases hh : ∃ l, l < j ∧ listed.getD l false = false
              · exact hh
              · exact absurd (fun l hlj => by
                  cases hb : listed.getD l false with
                  | true => rfl
                  | false => exact absurd ⟨l, hlj, hb⟩ hh) hl
            obtain ⟨l, hl1, hl2⟩ := this
            exact ihj l hl1 ⟨by omega, hl2⟩
      obtain ⟨j0, hj0, hj0f, hj0l⟩ := hleast
      have hgd : ∀ j, j < ops.length → listed.getD j true = listed.getD j false := by
        intro j hj
        have hjs : j < listed.size := by omega
        simp [hjs]
      refine ⟨fun hr => ?_, fun i hi => ?_⟩
      · exfalso
        have hlt : j0 < ops.length := by omega
        have : j0 ∈ Region.ready .any ops.toArray listed := by
          refine mem_ready.2 ⟨by rw [hgd j0 hlt]; exact hj0f, ops[j0], by simp [hlt], fun ed hed hb => ?_⟩
          exact hj0l _ (hok.up j0 ops[j0] (List.getElem?_eq_getElem hlt) ed.on (List.mem_map.2 ⟨ed, List.mem_filter.2 ⟨by simpa using hed, hb⟩, rfl⟩))
        rw [hr] at this
        cases this
      · obtain ⟨h1, o, ho, hall⟩ := mem_ready.1 hi
        rw [List.getElem?_toArray] at ho
        have hlt : i < ops.length := (List.getElem?_eq_some_iff.1 ho).1
        have hbnd : ∀ e' ∈ Bnd o, listed.getD e' false = true := fun e' he' => by
          obtain ⟨ed, hed, rfl⟩ := List.mem_map.1 he'
          obtain ⟨h3, h4⟩ := List.mem_filter.1 hed
          exact hall ed (by simpa using h3) h4
        have hiq : i < q := by
          rcases Nat.lt_or_ge i q with h2 | h2
          · exact h2
          · exfalso
            have := closed_mask hok.up hc i o ho hbnd j0 (hok.tail i o j0 h2 ho (by omega))
            simp only [hj0f] at this
            cases this
        have hif : listed.getD i false = false := by rw [← hgd i hlt]; exact h1
        have hLeq : (fun j => listed.getD j false || decide (j = i)) = fun j => (listed.setIfInBounds i true).getD j false := by
          funext j
          by_cases hji : i = j
          · subst hji
            have hjs : i < listed.size := by omega
            simp [hjs]
          · have hji' : ¬ j = i := fun h => hji h.symm
            rw [getD_set_ne false hji]
            simp [hji']
        have next : ∀ a' w' e', RSt G (stL ops q (vz vals km ((listed.setIfInBounds i true).getD m false)) (baseC σ X ((listed.setIfInBounds i true).getD c false)) fun j => (listed.setIfInBounds i true).getD j false) a' w' e' →
            Ext σ.H w0 e0 (baseC σ X ((listed.setIfInBounds i true).getD c false)).H w' e' → wpAnyIn (FW ro) 0 P .any ops.toArray Q fuel (listed.setIfInBounds i true) a' w' := by
          intro a' w' e' hst' hx'
          refine ih _ a' w' e' (by simpa using hs) (fun j hj hjl => ?_) (fun j o' hj hL e'' he'' => ?_) ?_ hst' hx'
          · rw [getD_set_ne true (by omega)]
            exact htail j hj hjl
          · simp only [← congrFun hLeq j] at hL
            simp only [← congrFun hLeq e'']
            simp only [Bool.or_eq_true, decide_eq_true_eq] at hL ⊢
            rcases hL with hL | rfl
            · exact .inl (hc j o' hj hL e'' he'')
            · rw [ho] at hj
              cases hj
              exact .inl (hbnd e'' he'')
          · have hcnt : (List.range q).countP (fun j => (listed.setIfInBounds i true).getD j false) = (List.range q).countP (fun j => listed.getD j false) + 1 := by
              rw [← hLeq]
              have gen : ∀ n, (List.range n).countP (fun j => listed.getD j false || decide (j = i)) = (List.range n).countP (fun j => listed.getD j false) + if i < n then 1 else 0 := by
                intro n
                induction n with
                | zero => simp
                | succ n ihn =>
                  rw [List.range_succ, List.countP_append, List.countP_append, ihn]
                  simp only [List.countP_cons, List.countP_nil, Nat.zero_add]
                  by_cases hni : n = i
                  · subst hni
                    rw [hif]
                    simp
                  · simp only [hni, decide_false, Bool.or_false]
                    by_cases h1 : i < n
                    · have h2 : i < n + 1 := by omega
                      rw [if_pos h1, if_pos h2]; omega
                    · have h2 : ¬ i < n + 1 := by omega
                      rw [if_neg h1, if_neg h2]; omega
              rw [gen q, if_pos hiq]
            rw [hcnt]
            omega
        have hself : (listed.setIfInBounds i true).getD i false = true := by
          have := congrFun hLeq i
          simp at this
          have hjs : i < listed.size := by omega
          simp [hjs]
        by_cases hic : i = c
        · subst hic
          rw [ho] at hoc
          cases hoc
          rw [hif] at h hx
          unfold wpOpIn
          simp only [List.getElem?_toArray, ho]
          rw [want_run (b := true) h (by unfold Want; rw [hg]), if_pos rfl]
          refine hcall (stL ops q (vz vals km (listed.getD m false)) (baseC σ X false) fun j => listed.getD j false) rfl ro a w e h _ _ fun x w' v τ e' hk' hc' hst hv hx2 => ?_
          obtain ⟨hvd, rfl⟩ := hk'
          have hτ : ({ (stL ops q (vz vals km (listed.getD m false)) (baseC σ X false) fun j => listed.getD j false) with H := σ.H ++ X } : St) = stL ops q (vz vals km (listed.getD m false)) (baseC σ X true) fun j => listed.getD j false := rfl
          rw [hτ] at hst hx2
          have hst2 := hst.put oc.dst (hv.demote (dq ops σ.H))
          have hvz : vz vals km (listed.getD m false) i = V.demote (dq ops σ.H) v := by
            rw [← hvd]
            unfold vz
            split
            · exact hck
            · rfl
          rw [← hvz, stL_put hok _ _ _ hiq ho] at hst2
          have hLm : (listed.setIfInBounds i true).getD m false = listed.getD m false := getD_set_ne false (fun h => hmc h.symm)
          refine next _ _ e' ?_ ?_
          · rw [hself, hLm, ← hLeq]; exact hst2
          · rw [hself]; exact hx.trans hx2
        · have hLc : (listed.setIfInBounds i true).getD c false = listed.getD c false := getD_set_ne false hic
          have hbH : demoteH (· == km) (baseC σ X (listed.getD c false)).H = (baseC σ X (listed.getD c false)).H := by
            cases listed.getD c false with
            | false => exact hHk
            | true =>
              show demoteH (· == km) (σ.H ++ X) = σ.H ++ X
              unfold demoteH at *
              rw [List.map_append, hHk, hXk]
          by_cases him : i = m
          · subst him
            rw [ho] at hom
            cases hom
            rw [hif] at h
            have h' : RSt G (stL ops q vals (baseC σ X (listed.getD c false)) fun j => listed.getD j false) a w e := h
            have hag := agree_stL hok vals (baseC σ X (listed.getD c false)) (fun j => listed.getD j false) hc hiq ho hbnd hif
            unfold wpOpIn
            simp only [List.getElem?_toArray, ho]
            rw [want_run (b := true) h' (by unfold Want; rw [hgm]), if_pos rfl]
            refine hkill _ (fun x hx => ?_) ro a w e h' _ _ fun x w' v τ e' hk' hc' hst hv hx2 => ?_
            · rw [hag.agree.2 x hx]
              cases x with
              | tmp t =>
                simp only [St.ev, List.getD_eq_getElem?_getD]
                rw [stL_get, stL_get, baseC_tmps]
              | _ => rfl
            · obtain ⟨hvd, rfl⟩ := hk'
              have hτ : ({ (stL ops q vals (baseC σ X (listed.getD c false)) fun j => listed.getD j false) with tmps := (stL ops q vals (baseC σ X (listed.getD c false)) fun j => listed.getD j false).tmps.map (V.demote (· == km)), H := demoteH (· == km) (stL ops q vals (baseC σ X (listed.getD c false)) fun j => listed.getD j false).H } : St) =
                  stL ops q (vz vals km true) (baseC σ X (listed.getD c false)) fun j => listed.getD j false := by
                refine st_ext hbH rfl rfl fun t => ?_
                show ((stL ops q vals (baseC σ X (listed.getD c false)) fun j => listed.getD j false).tmps.map (V.demote (· == km)))[t]? = _
                rw [List.getElem?_map, stL_get, stL_get, baseC_tmps]
                cases hv : σ.tmps[t]? with
                | none => rfl
                | some v0 =>
                  have hvd0 : V.demote (· == km) v0 = v0 := by
                    have : (σ.tmps.map (V.demote (· == km)))[t]? = σ.tmps[t]? := by rw [hdk]
                    rw [List.getElem?_map, hv] at this
                    simpa using this
                  simp only [Option.map_some, Option.some.injEq]
                  cases own ops q t with
                  | none => exact hvd0
                  | some l =>
                    simp only
                    split
                    · rfl
                    · exact hvd0
              rw [hτ] at hst hx2
              have hst2 := hst.put om.dst ((hv.demote (dq ops σ.H)).demote (· == km))
              have hvz : vz vals km true i = V.demote (· == km) (V.demote (dq ops σ.H) v) := by
                show V.demote (· == km) (vals i) = _
                rw [hvd, demote_demote]
              rw [← hvz, stL_put hok _ _ _ hiq ho] at hst2
              refine next _ _ e' ?_ ?_
              · rw [hself, hLc, ← hLeq]; exact hst2
              · rw [hLc]; exact hx.trans hx2
          · have hag := agree_stL hok vals (baseC σ X (listed.getD c false)) (fun j => listed.getD j false) hc hiq ho hbnd hif
            have hAg : AgreeL ops o (stL ops q (vz vals km (decide (m < i))) σ fun l => decide (l < i)) (stL ops q (vz vals km (listed.getD m false)) (baseC σ X (listed.getD c false)) fun j => listed.getD j false) := by
              refine ⟨.inr ?_, fun t ht => ?_⟩
              · cases listed.getD c false with
                | false => exact PreH.rfl'
                | true => exact ⟨X, hX, rfl⟩
              · have h2 := hag.2 t ht
                have h3 : ∀ (b : Bool) (S : St) (L : Nat → Bool), S.tmps = σ.tmps → (stL ops q (vz vals km b) S L).tmps[t]? = (stL ops q vals S L).tmps[t]? := fun b S L hS => by
                  rw [stL_get, stL_get, hS]
                  cases hv0 : σ.tmps[t]? with
                  | none => rfl
                  | some v0 =>
                    simp only [Option.map_some, Option.some.injEq]
                    cases hw : own ops q t with
                    | none => rfl
                    | some l =>
                      simp only
                      have : vz vals km b l = vals l := by
                        rcases vz_or vals km b l with hz | hz
                        · exact hz
                        · rw [hz]; exact hlook i o t l hiq him ho ht hw ⟨v0, hv0⟩
                      rw [this]
                rw [h3 _ _ _ rfl, h3 _ _ _ (baseC_tmps _ _ _), h2, stL_get, stL_get, baseC_tmps]
            have hLm : (listed.setIfInBounds i true).getD m false = listed.getD m false := getD_set_ne false him
            refine qc_run ho (hvals i o hiq hic him ho) hAg h (by have := hdem (listed.getD c false) (listed.getD m false) fun j => listed.getD j false; exact this) fun a' w' e' hst' hx' => ?_
            have hst3 : RSt G ((stL ops q (vz vals km (listed.getD m false)) (baseC σ X (listed.getD c false)) fun j => listed.getD j false).put o.dst (vz vals km (listed.getD m false) i)) a' w' e' := by
              rcases vz_or vals km (listed.getD m false) i with hz | hz
              · rw [hz]; exact hst'
              · rw [hz]; exact rst_put_demote _ hst'
            rw [stL_put hok _ _ _ hiq ho] at hst3
            refine next a' w' e' ?_ ?_
            · rw [hLc, hLm, ← hLeq]; exact hst3
            · rw [hLc]; exact hx.trans hx'

end Go.Abs

/-! DrawF -/
/- Regions that draw their order with an append that takes up spare places: the rule for walks. -/
namespace Go.Abs
open Go.RowKit
set_option linter.unusedVariables false
set_option linter.unusedSimpArgs false

variable {P : Program} {G : Nat → Option (List V)}

theorem demote_noCls {v : V} {k : Nat} (h : v.hasCls k = false) : V.demote (· == k) v = v := by
  cases v with
  | dat es rows fl => cases fl with
    | cls c =>
      have : (c == k) = false := by
        simp only [V.hasCls, beq_eq_false_iff_ne] at h
        simp; exact fun e => h e.symm
      simp [V.demote, this]
    | _ => rfl
  | _ => rfl

theorem demoteH_noCls {H : Heap} {k : Nat} (h : heapCls H k = false) : demoteH (· == k) H = H := by
  unfold demoteH
  unfold heapCls at h
  rw [List.any_eq_false] at h
  refine (List.map_congr_left (g := fun x => x) fun b hb => ?_).trans (by simp)
  cases b with
  | none => rfl
  | some b =>
    have h1 := h _ hb
    simp only [Option.map_some]
    congr 1
    cases b with
    | cells t vs =>
      have h1 : ∀ v ∈ vs, v.hasCls k = false := by simpa [Blk.hasCls] using h1
      simp only [Blk.demote]
      congr 1
      refine (List.map_congr_left (g := fun x => x) fun v hv => demote_noCls (h1 v hv)).trans (by simp)
    | _ => rfl

/-- No operation of the first q but m looks at the temporary km. -/
def lookFree (ops : List Oper) (q m km : Nat) : Bool :=
  (ops.zipIdx).all fun (o, i) => Nat.ble q i || Nat.beq i m || (o.looksAt ops.toArray).all fun t => !Nat.beq t km

theorem lookFree_spec {ops : List Oper} {q m km : Nat} (h : lookFree ops q m km = true) {j : Nat} {o : Oper} {t : Nat} (hj : j < q) (hm : j ≠ m) (ho : ops[j]? = some o) (ht : t ∈ o.looksAt ops.toArray) : t ≠ km := by
  unfold lookFree at h
  rw [List.all_eq_true] at h
  have h1 := h (o, j) (mem_zipIdx' ho)
  simp only [Bool.or_eq_true, List.all_eq_true] at h1
  rcases h1 with (h1 | h1) | h1
  · have := Nat.le_of_ble_eq_true h1; omega
  · exact absurd (Nat.eq_of_beq_eq_true h1) hm
  · have h2 := h1 t ht
    intro e
    subst e
    simp at h2

/-- append to a slice of the class km. -/
def evAppK (P : Program) (t t' : TypeId) (km : Nat) (x y : V) (K : V → Prop) : Prop :=
  match slOf P t with
  | some (el, s, bytes) => match x, y with
    | .dat es rows (.cls c), .dat es' ys _ =>
      grd (Nat.beq c km && notInt P t' && Nat.ble 1 s && (match zeroOf P el with | some z => Nat.beq z.length s | none => false)) (
      (rows = [] ∨ es = s) ∧ (ys = [] ∨ es' = s) ∧ (∀ r ∈ ys, r.all V.solid = true) ∧
      (rows.length + ys.length) * bytes ≤ maxBytes ∧ rows.length + ys.length ≤ maxBytes ∧ K (.dat s (rows ++ ys) .no))
    | _, _ => False
  | none => False

def evAppKO (P : Program) (o : Oper) (km : Nat) (ev : Operand → V) (K : V → Prop) : Prop :=
  match o.op with
  | .call { callee := .builtin .append, args, argTypes } => match args.toList, argTypes.toList with
    | [x, y], [t, t'] => evAppK P t t' km (ev x) (ev y) K
    | _, _ => False
  | _ => False

theorem evAppKO_ex {o : Oper} {km : Nat} {ev : Operand → V} {K : V → Prop} (h : evAppKO P o km ev K) :
    ∃ u, K u ∧ (u.isCls = false) ∧ ∀ (p : Nat → Bool) (σ : St) (hev : ∀ x ∈ o.op.operands, σ.ev x = ev x), evOp P G o σ fun v τ => u = V.demote (· == km) (V.demote p v) ∧ τ = { σ with tmps := σ.tmps.map (V.demote (· == km)), H := demoteH (· == km) σ.H } := by
  unfold evAppKO at h
  split at h
  · rename_i args argTypes hop
    split at h
    · rename_i x y t t' hargs htys
      unfold evAppK at h
      split at h
      · rename_i el s bytes hs
        split at h
        · rename_i es rows c es' ys fl hx hy
          rw [grd_iff] at h
          obtain ⟨h0, h1, h2, h3, h4, h5, h6⟩ := h
          simp only [Bool.and_eq_true] at h0
          obtain ⟨⟨⟨g1, g2⟩, g3⟩, g4⟩ := h0
          have hc := Nat.eq_of_beq_eq_true g1
          subst hc
          refine ⟨_, h6, rfl, fun p σ hev => ?_⟩
          have hx' : σ.ev x = .dat es rows (.cls c) := by
            rw [hev x (by rw [hop]; have hm : x ∈ args := Array.mem_toList_iff.1 (by rw [hargs]; simp); simp [Op.operands, Call.operands, hm])]; exact hx
          have hy' : σ.ev y = .dat es' ys fl := by
            rw [hev y (by rw [hop]; have hm : y ∈ args := Array.mem_toList_iff.1 (by rw [hargs]; simp); simp [Op.operands, Call.operands, hm])]; exact hy
          have hz : ((zeroOf P el).map List.length) = some s := by
            split at g4
            · rename_i z hz
              rw [hz]
              simpa using Nat.eq_of_beq_eq_true g4
            · cases g4
          unfold evOp
          simp only [hop, evBuiltin, hargs, htys, List.map_cons, List.map_nil, hx', hy', evAppend, hs]
          refine ⟨g2, Nat.le_of_ble_eq_true g3, hz, h1, h2, h3, h4, h5, ?_, trivial⟩
          cases hp : p c <;> simp [V.demote, hp]
        · exact h.elim
      · exact h.elim
    · exact h.elim
  · exact h.elim

theorem evQs_take {ops : List Oper} {n : Nat} : (ops.drop 0).take n = ops.take n := by simp

theorem noCls_of_demote {v : V} {k : Nat} (h : v.hasCls k = true → False) : v.hasCls k = false := by
  cases hv : v.hasCls k with
  | false => rfl
  | true => exact (h hv).elim

theorem wpc_drawE {id : Nat} {ops : Array Oper} {Φ : Exit → St → Prop} {σ : St} (q m km : Nat) (oc om : Oper) (hm : P.follows .mixedOrders = true) (hql : q + 1 ≤ ops.toList.length) (hok : drawOk ops.toList (q + 1) = true)
    (hoc : ops.toList[q]? = some oc) (hg : oc.guard = none) (hmq : m < q) (hom : ops.toList[m]? = some om) (hgm : om.guard = none) (hlk : lookFree ops.toList (q + 1) m km = true)
    (hσ : ∀ v ∈ σ.tmps, v.hasCls km = false) (hH : heapCls σ.H km = false)
    (h : evQs P G ops.toList (ops.toList.take m) { σ with tmps := σ.tmps.map (V.demote (dq ops.toList σ.H)) } fun σ1 => (∀ (t : Nat) v, σ1.tmps[t]? = some v → t ≠ km → v.hasCls km = false) ∧ evAppKO P om km σ1.ev fun u =>
      evQs P G ops.toList ((ops.toList.drop (m + 1)).take (q - (m + 1))) (({ σ1 with tmps := σ1.tmps.map (V.demote (· == km)) } : St).put om.dst u) fun σ3 => (∀ v ∈ σ3.tmps, v.hasCls km = false) ∧ LayC P G ops.toList oc σ3 fun u X =>
        evOps P G ops.toList (ops.toList.drop (q + 1)) (({ σ3 with H := σ3.H ++ X } : St).put oc.dst u) (Φ .normal)) :
    WPc P G (.region id ops true) Φ σ := by
  intro a w e hst
  have hok := drawOk_spec hok
  refine wpIn_region_any hm ?_
  let σ1 : St := { σ with tmps := σ.tmps.map (V.demote (dq ops.toList σ.H)) }
  obtain ⟨hst1, hx1⟩ := hst.drew
  have hst2 : RSt G σ1 a w.drew e := ⟨hst1.heap, ⟨by
    show (σ.tmps.map _).length = _
    simpa using hst1.tmps.1, fun i v u hv hu => by
    simp only [σ1, List.getElem?_map] at hv
    obtain ⟨v', hv', rfl⟩ := Option.map_eq_some_iff.1 hv
    exact (hst1.tmps.2 i v' u hv' hu).demote _⟩, hst1.defs, hst1.defsN, hst1.cur⟩
  have h0 : ∀ vals b, stL ops.toList (q + 1) vals b (fun j => decide (j < 0)) = b := fun vals b => by
    refine st_ext rfl rfl rfl fun t => ?_
    rw [stL_get]
    cases b.tmps[t]? with
    | none => rfl
    | some v => cases own ops.toList (q + 1) t <;> simp
  have hcls1 : ∀ v ∈ σ1.tmps, v.hasCls km = false := by
    intro v hv
    obtain ⟨v', hv', rfl⟩ := List.mem_map.1 hv
    have := hσ v' hv'
    cases v' with
    | dat es rows fl => cases fl with
      | cls c => simp only [V.demote]; split <;> simp_all [V.hasCls]
      | _ => rfl
    | _ => rfl
  have hdk : σ1.tmps.map (V.demote (· == km)) = σ1.tmps := (List.map_congr_left (g := fun x => x) fun v hv => demote_noCls (hcls1 v hv)).trans (by simp)
  -- the first run
  obtain ⟨vals1, _, hv1, hc1, hk1⟩ := evQs_vals hok hql (n := m) (by omega) σ1 _ m 0 (fun _ => .bad) (by omega) (by rw [h0]; simpa using h)
  obtain ⟨u, hk1, huc, hop⟩ := evAppKO_ex hk1
  -- the second run
  let vals2 : Nat → V := fun j => if j < m then V.demote (· == km) (vals1 j) else u
  have hstart : (({ stL ops.toList (q + 1) vals1 σ1 (fun j => decide (j < m)) with tmps := (stL ops.toList (q + 1) vals1 σ1 (fun j => decide (j < m))).tmps.map (V.demote (· == km)) } : St).put om.dst u) = stL ops.toList (q + 1) vals2 σ1 fun j => decide (j < m + 1) := by
    have e1 : ({ stL ops.toList (q + 1) vals1 σ1 (fun j => decide (j < m)) with tmps := (stL ops.toList (q + 1) vals1 σ1 (fun j => decide (j < m))).tmps.map (V.demote (· == km)) } : St) = stL ops.toList (q + 1) vals2 σ1 fun j => decide (j < m) := by
      refine st_ext rfl rfl rfl fun t => ?_
      show ((stL ops.toList (q + 1) vals1 σ1 (fun j => decide (j < m))).tmps.map (V.demote (· == km)))[t]? = _
      rw [List.getElem?_map, stL_get, stL_get]
      cases hv : σ1.tmps[t]? with
      | none => rfl
      | some v0 =>
        have hvd0 : V.demote (· == km) v0 = v0 := demote_noCls (hcls1 v0 (List.mem_of_getElem? hv))
        simp only [Option.map_some, Option.some.injEq]
        cases own ops.toList (q + 1) t with
        | none => exact hvd0
        | some l =>
          simp only
          by_cases hl : l < m
          · simp [hl, vals2]
          · simp [hl, hvd0]
    have e2 : u = vals2 m := by simp [vals2]
    rw [e1]
    conv => lhs; rw [e2]
    rw [stL_put hok vals2 _ _ (by omega) hom]
    congr 1
    funext j
    by_cases hj : j = m
    · simp [hj]
    · simp only [hj, decide_false, Bool.or_false, decide_eq_decide]
      omega
  rw [hstart] at hk1
  obtain ⟨vals3, hv3a, hv3, hc3, hk3⟩ := evQs_vals hok hql (n := q) (by omega) σ1 _ (q - (m + 1)) (m + 1) vals2 (by omega) hk1
  unfold LayC at hk3
  split at hk3
  · rename_i t hopc
    split at hk3
    · rename_i cs hz
      obtain ⟨hcls, hk⟩ := hk3
      let X : Heap := [some (.cells t cs)]
      have hX : ∀ k, heapCls X k = false := fun k => by
        show ((cs.any (V.hasCls k)) || false) = false
        rw [noCls_any hcls k]; rfl
      let vals : Nat → V := fun j => if j < m then vals1 j else if j = q then .ptr σ.H.length 0 else vals3 j
      have hvq : vals q = .ptr σ.H.length 0 := by simp [vals]; omega
      have hvm : vals m = u := by
        have h1 : vals m = vals3 m := by simp [vals]; omega
        rw [h1, hv3a m (by omega)]
        simp [vals2]
      have hvlo : ∀ j, j < m → vals j = vals1 j := fun j hj => by simp [vals, hj]
      have hvhi : ∀ j, m ≤ j → j < q → vals j = vals3 j := fun j h1 h2 => by
        have h3 : ¬ j < m := by omega
        have h4 : j ≠ q := by omega
        simp [vals, h3, h4]
      -- values of the second run know nothing of km
      have hin3 : ∀ (t l : Nat) v0, own ops.toList (q + 1) t = some l → l < q → σ1.tmps[t]? = some v0 → (vals3 l).hasCls km = false := by
        intro t l v0 hw hl hv0
        refine hc3 _ (List.mem_of_getElem? (i := t) ?_)
        rw [stL_get, hv0]
        simp [hw, hl]
      have hin1 : ∀ (t l : Nat) v0, own ops.toList (q + 1) t = some l → l < m → σ1.tmps[t]? = some v0 → t ≠ km → (vals1 l).hasCls km = false := by
        intro t l v0 hw hl hv0 hne
        refine hc1 t _ ?_ hne
        rw [stL_get, hv0]
        simp [hw, hl]
      have hvz : ∀ (t l : Nat) v0, own ops.toList (q + 1) t = some l → l < q → σ1.tmps[t]? = some v0 → vz vals km true l = vals3 l := by
        intro t l v0 hw hl hv0
        show V.demote (· == km) (vals l) = vals3 l
        by_cases h1 : l < m
        · rw [hvlo l h1, hv3a l (by omega)]
          simp [vals2, h1]
        · rw [hvhi l (by omega) hl]
          exact demote_noCls (hin3 t l v0 hw hl hv0)
      have hst3 : ∀ n, n ≤ q → ∀ b : St, b.tmps = σ1.tmps → stL ops.toList (q + 1) (vz vals km true) b (fun l => decide (l < n)) = stL ops.toList (q + 1) vals3 b fun l => decide (l < n) := by
        intro n hn b hb
        refine st_ext rfl rfl rfl fun t => ?_
        rw [stL_get, stL_get, hb]
        cases hv0 : σ1.tmps[t]? with
        | none => rfl
        | some v0 =>
          simp only [Option.map_some, Option.some.injEq]
          cases hw : own ops.toList (q + 1) t with
          | none => rfl
          | some l =>
            simp only
            by_cases hl : l < n
            · simp only [hl, decide_true, if_true]
              exact hvz t l v0 hw (by omega) hv0
            · simp [hl]
      have hput : ((({ stL ops.toList (q + 1) vals3 σ1 (fun j => decide (j < q)) with H := (stL ops.toList (q + 1) vals3 σ1 fun j => decide (j < q)).H ++ X } : St)).put oc.dst (.ptr (stL ops.toList (q + 1) vals3 σ1 fun j => decide (j < q)).H.length 0)) =
          stL ops.toList (q + 1) (vz vals km true) (baseC σ1 X true) fun j => decide (j < q + 1) := by
        have e1 : (({ stL ops.toList (q + 1) vals3 σ1 (fun j => decide (j < q)) with H := (stL ops.toList (q + 1) vals3 σ1 fun j => decide (j < q)).H ++ X } : St)) = stL ops.toList (q + 1) vals3 (baseC σ1 X true) fun j => decide (j < q) := rfl
        have e3 : V.ptr (stL ops.toList (q + 1) vals3 σ1 fun j => decide (j < q)).H.length 0 = vz vals km true q := by
          show _ = V.demote (· == km) (vals q)
          rw [hvq]; rfl
        rw [e1, ← hst3 q (Nat.le_refl _) _ (baseC_tmps _ _ _), e3, stL_put hok _ _ _ (by omega) hoc]
        congr 1
        funext j
        by_cases hj : j = q
        · simp [hj]
        · simp only [hj, decide_false, Bool.or_false, decide_eq_decide]
          omega
      rw [hput] at hk
      have hdm : V.demote (dq ops.toList σ.H) u = u := by
        exact demote_plain huc _
      have := draw_e (ro := σ.cur.map e.ρ) hok hql (c := q) (by omega) hoc hg (m := m) (by omega) (by omega) hom hgm km (σ := σ1) (vals := vals) (X := X) (Q := fun x a' w' => ∃ σ' e', Φ x σ' ∧ σ'.cur = σ.cur ∧ RSt G σ' a' w' e' ∧ Ext σ.H w e σ'.H w' e') (w0 := w) (e0 := e)
        (by simp only [σ1, List.map_map]; exact List.map_congr_left fun v _ => demote_demote _ v) hX (by rw [hvq]; rfl)
        (fun σ' hH ro act w e hst => by
          refine (evOp_sound (k := fun r τ => vals q = V.demote (dq ops.toList σ1.H) r ∧ τ = { σ' with H := σ1.H ++ X }) hst ?_)
          simp only [evOp, hopc, hz]
          rw [hH]
          exact ⟨hvq, rfl⟩)
        (fun σ' hops ro act w e hst => by
          refine evOp_sound hst ?_
          rw [hvm]
          refine hop (dq ops.toList σ1.H) σ' fun x hx => ?_
          rw [hops x hx]
          congr 1
          exact stL_congr fun l hl => hvlo l (by simpa using hl))
        (by rw [hvm]; exact hdm) hdk (demoteH_noCls hH) (demoteH_noCls (hX km)) (by rw [hvq]; rfl)
        (fun j o t l hj hne ho ht hw hv0 => by
          obtain ⟨v0, hv0⟩ := hv0
          have hlq : l < q + 1 := (own_some hw).1
          by_cases h1 : l = q
          · rw [h1, hvq]; rfl
          · refine demote_noCls ?_
            by_cases h2 : l < m
            · rw [hvlo l h2]
              exact hin1 t l v0 hw h2 hv0 (lookFree_spec hlk hj hne ho ht)
            · rw [hvhi l (by omega) (by omega)]
              exact hin3 t l v0 hw (by omega) hv0)
        (fun j o hj hne hnm ho => by
          by_cases h1 : j < m
          · have h2 : decide (m < j) = false := by simp; omega
            rw [h2, hvlo j h1]
            have h3 : stL ops.toList (q + 1) (vz vals km false) σ1 (fun l => decide (l < j)) = stL ops.toList (q + 1) vals1 σ1 fun l => decide (l < j) := stL_congr fun l hl => by
              have : l < j := by simpa using hl
              exact hvlo l (by omega)
            rw [h3]
            exact hv1 j o (by omega) h1 ho
          · have h2 : decide (m < j) = true := by simp; omega
            rw [h2, hvhi j (by omega) (by omega), hst3 j (by omega) σ1 rfl]
            exact hv3 j o (by omega) (by omega) ho)
        hk (fun σ' a' w' e' h1 h2 h3 h4 => ⟨σ', e', h1, h2, h3, h4⟩)
        ops.size (Array.replicate ops.size false) a w.drew e (by simp) (fun j _ hj => by
          have hj' : j < ops.size := by simpa using hj
          simp [hj']) (fun i o hi hL => by
          exfalso
          have hi' : i < ops.size := by have := (List.getElem?_eq_some_iff.1 hi).1; simpa using this
          simp [hi'] at hL) (by simp) (by
          have hcf : ∀ i, (Array.replicate ops.size false).getD i false = false := fun i => by
            by_cases hh : i < ops.size <;> simp [hh]
          have hLf : (fun j => (Array.replicate ops.size false).getD j false) = fun j => decide (j < 0) := by
            funext j
            by_cases hj : j < ops.size <;> simp [hj]
          rw [hcf, hcf, hLf, h0]
          exact hst2) (by
          have hcf : (Array.replicate ops.size false).getD q false = false := by
            by_cases hh : q < ops.size <;> simp [hh]
          rw [hcf]
          exact hx1)
      simpa using this
    · exact hk3.elim
  · exact hk3.elim

/-! ### for reduction -/
def S2.noK (s : S2) (k : Nat) : Bool := !(s.upd.any (fun x => x.2.hasCls k) || s.base.any (V.hasCls k))
def S2.onlyK (s : S2) (k : Nat) : Bool := !(s.upd.any (fun x => !Nat.beq x.1 k && x.2.hasCls k) || s.base.any (V.hasCls k))

theorem app_get : ∀ (u : List (Nat × V)) (b : List V) (t : Nat) (v : V), (app u b)[t]? = some v → v ∈ b ∨ (t, v) ∈ u
  | [], b, t, v, h => .inl (List.mem_of_getElem? h)
  | (d, x) :: r, b, t, v, h => by
    unfold app at h
    by_cases hd : d = t
    · subst hd
      rw [List.getElem?_set] at h
      simp only [if_true] at h
      split at h
      · cases h; exact .inr (List.mem_cons_self ..)
      · cases h
    · rw [List.getElem?_set_ne hd] at h
      rcases app_get r b t v h with h | h
      · exact .inl h
      · exact .inr (List.mem_cons_of_mem _ h)

theorem S2.noK_spec {s : S2} {k : Nat} (h : s.noK k = true) : ∀ v ∈ s.st.tmps, v.hasCls k = false := by
  unfold S2.noK at h
  simp only [Bool.not_eq_true', Bool.or_eq_false_iff, List.any_eq_false] at h
  intro v hv
  obtain ⟨t, ht⟩ := List.getElem?_of_mem hv
  rcases app_get _ _ t v ht with h1 | h1
  · simpa using h.2 v h1
  · simpa using h.1 _ h1

theorem S2.onlyK_spec {s : S2} {k : Nat} (h : s.onlyK k = true) : ∀ (t : Nat) v, s.st.tmps[t]? = some v → t ≠ k → v.hasCls k = false := by
  unfold S2.onlyK at h
  simp only [Bool.not_eq_true', Bool.or_eq_false_iff, List.any_eq_false] at h
  intro t v ht hne
  rcases app_get _ _ t v ht with h1 | h1
  · simpa using h.2 v h1
  · have := h.1 _ h1
    simp only [Bool.and_eq_true, Bool.not_eq_true', not_and] at this
    have hb : Nat.beq t k = false := by
      cases hh : Nat.beq t k with
      | false => rfl
      | true => exact absurd (Nat.eq_of_beq_eq_true hh) hne
    simpa using this hb

theorem evAppKO_mono {o : Oper} {km : Nat} {ev ev' : Operand → V} {K K' : V → Prop} (he : ∀ x, ev x = ev' x) (hk : ∀ v, K v → K' v) (h : evAppKO P o km ev K) : evAppKO P o km ev' K' := by
  have : ev = ev' := funext he
  subst this
  unfold evAppKO at h ⊢
  split at h
  · rename_i args argTypes hop
    try simp only [hop]
    split at h
    · rename_i x y t t' hargs htys
      try simp only [hargs, htys]
      unfold evAppK at h ⊢
      split at h
      · rename_i el s bytes hs
        try simp only [hs]
        split at h
        · rename_i es rows c es' ys fl hx hy
          try simp only [hx, hy]
          rw [grd_iff] at h ⊢
          obtain ⟨h0, h1, h2, h3, h4, h5, h6⟩ := h
          exact ⟨h0, h1, h2, h3, h4, h5, hk _ h6⟩
        · exact h.elim
      · exact h.elim
    · exact h.elim
  · exact h.elim

theorem wpc_drawE2 {id : Nat} {ops : Array Oper} {Φ : Exit → S2 → Prop} {s : S2} (q m km : Nat) (oc om : Oper) (hm : P.follows .mixedOrders = true) (hql : q + 1 ≤ ops.toList.length) (hok : drawOk ops.toList (q + 1) = true)
    (hoc : ops.toList[q]? = some oc) (hg : oc.guard = none) (hmq : m < q) (hom : ops.toList[m]? = some om) (hgm : om.guard = none) (hlk : lookFree ops.toList (q + 1) m km = true) (hw : s.Wf)
    (h : grd (s.noK km && !heapCls s.H km) (evQs2 P G ops.toList (ops.toList.take m) (s.dem (dq ops.toList s.H)) fun s1 => grd (s1.onlyK km) (evAppKO P om km s1.ev fun u => put2 (s1.dem (· == km)) om.dst u fun s2 =>
      evQs2 P G ops.toList ((ops.toList.drop (m + 1)).take (q - (m + 1))) s2 fun s3 => grd (s3.noK km) (LayC2 P oc s3 fun u X => put2 (s3.setH (s3.H ++ X)) oc.dst u fun s4 =>
      evOps2 P G ops.toList (ops.toList.drop (q + 1)) s4 (Φ .normal))))) : WPc P G (.region id ops true) (toΦ s.n Φ) s.st := by
  rw [grd_iff] at h
  obtain ⟨hc, h⟩ := h
  simp only [Bool.and_eq_true, Bool.not_eq_true'] at hc
  refine wpc_drawE q m km oc om hm hql hok hoc hg hmq hom hgm hlk (S2.noK_spec hc.1) hc.2 ?_
  have hd := S2.dem_st (s := s) (dq ops.toList s.H)
  have hn : ∀ (s : S2) p, (s.dem p).n = s.n := fun s p => by unfold S2.dem; split <;> rfl
  have := evQs2_imp (K := fun σ1 => (∀ (t : Nat) v, σ1.tmps[t]? = some v → t ≠ km → v.hasCls km = false) ∧ evAppKO P om km σ1.ev fun u =>
      evQs P G ops.toList ((ops.toList.drop (m + 1)).take (q - (m + 1))) (({ σ1 with tmps := σ1.tmps.map (V.demote (· == km)) } : St).put om.dst u) fun σ3 => (∀ v ∈ σ3.tmps, v.hasCls km = false) ∧ LayC P G ops.toList oc σ3 fun u X =>
        evOps P G ops.toList (ops.toList.drop (q + 1)) (({ σ3 with H := σ3.H ++ X } : St).put oc.dst u) (toΦ s.n Φ .normal)) s.n
    (fun s1 hw1 hn1 h1 => by
      rw [grd_iff] at h1
      refine ⟨S2.onlyK_spec h1.1, evAppKO_mono (fun x => (S2.ev_eq hw1 x).symm) (fun u hu => ?_) h1.2⟩
      have hwd := S2.dem_wf hw1 (· == km)
      obtain ⟨s2, e1, e2, e3, e4⟩ := put2_imp hwd hu
      rw [S2.dem_st] at e1
      rw [← e1]
      have hn2 : s2.n = s.n := by rw [e3, hn]; exact hn1
      refine evQs2_imp s.n (fun s3 hw3 hn3 h3 => ?_) _ s2 e2 hn2 e4
      rw [grd_iff] at h3
      refine ⟨S2.noK_spec h3.1, ?_⟩
      have h3 := h3.2
      unfold LayC2 at h3
      unfold LayC
      split at h3
      · rename_i t ho
        split at h3
        · rename_i cs hz
          try simp only [ho, hz]
          rw [grd_iff] at h3
          refine ⟨h3.1, ?_⟩
          have hk := h3.2
          have hwX : (s3.setH (s3.H ++ [some (.cells t cs)])).Wf := by rw [S2.setH_eq]; exact ⟨hw3.n, hw3.d⟩
          obtain ⟨s4, e1, e2, e3, e4⟩ := put2_imp hwX hk
          have hst : ({ s3.st with H := s3.st.H ++ [some (.cells t cs)] } : St) = (s3.setH (s3.H ++ [some (.cells t cs)])).st := by rw [S2.setH_eq]; rfl
          show evOps P G ops.toList (ops.toList.drop (q + 1)) (({ s3.st with H := s3.st.H ++ [some (.cells t cs)] } : St).put oc.dst (.ptr s3.H.length 0)) _
          rw [hst, ← e1]
          have hn4 : s4.n = s.n := by rw [e3, S2.setH_eq]; exact hn3
          exact evOps2_imp s.n (fun s'' hw'' hn'' h'' => ⟨s'', rfl, hw'', hn'', h''⟩) _ s4 e2 hn4 e4
        · exact h3.elim
      · exact h3.elim) _ _ (S2.dem_wf hw _) (hn _ _) h
  rw [hd] at this
  exact this

end Go.Abs

/-! DrawG -/
/- Regions that draw their order and in which several operations change blocks, in an order of their own. -/
namespace Go.Abs
open Go.RowKit
set_option linter.unusedVariables false
set_option linter.unusedSimpArgs false

variable {P : Program} {G : Nat → Option (List V)}

theorem PreH.trans {H H1 H2 : Heap} (h : PreH H H1) (h' : PreH H1 H2) : PreH H H2 := by
  obtain ⟨X, hX, rfl⟩ := h
  obtain ⟨Y, hY, rfl⟩ := h'
  refine ⟨X ++ Y, fun k => ?_, by simp⟩
  have h1 := hX k
  have h2 := hY k
  unfold heapCls at *
  rw [List.any_append, h1, h2]; rfl

/-- A load's block is the same. -/
def LoadOk (G : Nat → Option (List V)) (o : Oper) (σ : St) (H : Heap) : Prop :=
  match o.op with
  | .load _ a => match asRp G (σ.ev a) with
    | .ptr i _ => H[i]? = σ.H[i]?
    | .rp _ => True
    | _ => False
  | _ => False

/-- A load's block is there. -/
def LoadAt (G : Nat → Option (List V)) (o : Oper) (σ : St) : Prop :=
  match o.op with
  | .load _ a => match asRp G (σ.ev a) with
    | .ptr i _ => i < σ.H.length
    | .rp _ => True
    | _ => False
  | _ => True

/-- A quiet operation; calls are of functions that look at no block. -/
def evQG (P : Program) (G : Nat → Option (List V)) (fx : Bool) (o : Oper) (σ : St) (K : V → Prop) : Prop :=
  match fx with
  | false => evQ P G o σ K
  | true => match o.op with
    | .call { callee := .value f, args, .. } => match σ.ev f with
      | .fn (.func g) a b => (∃ fn, P.funcs[g]? = some fn ∧ fn.body.isSome ∧ (fn.name == "runtime.NumGoroutine") = false) ∧
          ∃ u, (∀ H, StCall P G g ((a ++ (args.toList.map σ.ev) ++ b).map V.strip) H (fun r H' => H' = H ∧ r = u)) ∧ K u
      | _ => False
    | _ => False

/-- The blocks that it may be carried out at. -/
def AtH (G : Nat → Option (List V)) (fx : Bool) (o : Oper) (σ : St) (H : Heap) : Prop :=
  heapFree o.op = true ∨ PreH σ.H H ∨ LoadOk G o σ H ∨ fx = true

theorem evQG_ex {fx : Bool} {o : Oper} {σ : St} {K : V → Prop} (h : evQG P G fx o σ K) :
    ∃ u, K u ∧ LoadAt G o σ ∧ ∀ σ', AtH G fx o σ σ'.H → (∀ x ∈ o.op.operands, σ'.ev x = σ.ev x) → ∀ ro a w e, RSt G σ' a w e → OpWp P G ro o σ' a w e fun v τ => (τ = σ' ∨ (isVCall o = true ∧ τ = σ'.afterCall σ'.H)) ∧ v = u := by
  cases fx with
  | false =>
    obtain ⟨u, hK, hu⟩ := evQ_ex h
    by_cases hl : ∃ t a, o.op = .load t a
    · obtain ⟨t, a, ho⟩ := hl
      simp only [evQG, evQ, ho] at h
      obtain ⟨_, h⟩ := h
      unfold evOp at h
      simp only [ho, true_and] at h
      obtain ⟨u, hK, hu⟩ := det_load t σ (asRp G (σ.ev a)) K h
      have hat : LoadAt G o σ := by
        have h0 := hu (· = u) rfl
        unfold LoadAt
        rw [ho]
        simp only
        split
        · rename_i i off hv
          rw [hv] at h0
          simp only [evLoad] at h0
          split at h0
          · rename_i hH; exact (List.getElem?_eq_some_iff.1 hH).1
          · exact h0.elim
        · trivial
        · rename_i h1 h2
          revert h0
          cases hv : asRp G (σ.ev a) <;> intro h0
          all_goals first | exact h0.elim | exact absurd hv (h1 _ _) | exact absurd hv (h2 _)
      refine ⟨u, hK, hat, fun σ' ha hops ro act w e hst => evOp_sound hst ?_⟩
      unfold evOp
      simp only [ho]
      have ha1 : σ'.ev a = σ.ev a := hops a (by simp [ho, Op.operands])
      rw [ha1]
      have key : evLoad P t σ' (· = u) (asRp G (σ.ev a)) := by
        have h0 := hu (· = u) rfl
        rcases ha with ha | ha | ha | ha
        · rw [ho] at ha; cases ha
        · exact evLoad_pre ha h0
        · unfold LoadOk at ha
          rw [ho] at ha
          simp only at ha
          split at ha
          · rename_i i off hv
            rw [hv] at h0 ⊢
            simp only [evLoad] at h0 ⊢
            rw [ha]
            exact h0
          · rename_i cs hv
            rw [hv] at h0 ⊢
            exact h0
          · exact ha.elim
        · cases ha
      have mono : ∀ (x : V) (K K' : V → Prop), (∀ v, K v → K' v) → evLoad P t σ' K x → evLoad P t σ' K' x := by
        intro x K K' hm hx
        obtain ⟨u', h1, h2⟩ := det_load t σ' x K hx
        exact h2 K' (hm _ h1)
      exact mono _ _ _ (fun v hv => by simp [hv]) key
    · refine ⟨u, hK, ?_, fun σ' ha hops ro act w e hst => hu σ' ⟨?_, hops⟩ ro act w e hst⟩
      · unfold LoadAt
        split
        · rename_i t a ho; exact absurd ⟨t, a, ho⟩ hl
        · trivial
      rcases ha with ha | ha | ha | ha
      · exact .inl ha
      · exact .inr ha
      · exfalso
        unfold LoadOk at ha
        split at ha
        · rename_i t a ho; exact hl ⟨t, a, ho⟩
        · exact ha
      · cases ha
  | true =>
    simp only [evQG] at h
    split at h
    · rename_i f args ts ho
      split at h
      · rename_i g a b hf
        obtain ⟨hfn, u, hcall, hK⟩ := h
        refine ⟨u, hK, by unfold LoadAt; rw [ho]; trivial, fun σ' ha hops ro act w e hst => evOp_sound hst ?_⟩
        have hev : σ'.ev f = .fn (.func g) a b := by rw [hops f (by simp [ho, Op.operands, Call.operands]), hf]
        have hargs : args.toList.map σ'.ev = args.toList.map σ.ev := List.map_congr_left fun x hx => hops x (by simp [ho, Op.operands, Call.operands, Array.mem_toList_iff.1 hx])
        simp only [evOp, ho, hev]
        refine ⟨hfn, ?_⟩
        rw [hargs]
        exact (hcall σ'.H).mono fun r H' ⟨h1, h2⟩ => ⟨.inr ⟨by unfold isVCall; rw [ho], by rw [h1]⟩, h2⟩
      · exact h.elim
    · exact h.elim

/-- An operation that changes a block, or lays one: its value, the blocks behind it, which block. -/
def evEffN (P : Program) (G : Nat → Option (List V)) (o : Oper) (σ : St) (K : V → Heap → Nat → Prop) : Prop :=
  match o.op with
  | .store t a x => match σ.ev a with
    | .ptr id off => evStore P t σ (σ.ev x) (fun τ => K (.tup []) τ.H id) (.ptr id off)
    | _ => False
  | .alloc t => match zeroOf P t with
    | some cs => (cs.all fun v => !v.isCls) = true ∧ K (.ptr σ.H.length 0) (σ.H ++ [some (.cells t cs)]) σ.H.length
    | none => False
  | .box t x => match (σ.ev x).cellsF with
    | some cs => (cs.all fun v => !v.isCls) = true ∧ K (.ptr σ.H.length 0) (σ.H ++ [some (.cells t cs)]) σ.H.length
    | none => False
  | .makeSlice t n c => match slOf P t, σ.ev n, σ.ev c with
    | some (e, s, bytes), .im (.int _ a), .im (.int _ b) => match zeroOf P e with
      | some z => (z.all fun v => !v.isCls) = true ∧ (z.length = s ∧ 1 ≤ s) ∧ (b = a ∧ 0 ≤ a ∧ a ≤ maxBytes ∧ bytes * a ≤ maxBytes) ∧ K (.arr σ.H.length s a.toNat) (σ.H ++ [some (.cells e (List.replicate a.toNat z).flatten)]) σ.H.length
      | none => False
    | _, _, _ => False
  | .call { callee := .value f, args, .. } => match σ.ev f with
    | .fn (.func g) a b => (∃ fn, P.funcs[g]? = some fn ∧ fn.body.isSome ∧ (fn.name == "runtime.NumGoroutine") = false) ∧
        ∃ v H', StCall P G g ((a ++ (args.toList.map σ.ev) ++ b).map V.strip) σ.H (fun r H'' => H'' = H' ∧ r = v) ∧ K v H' 4294967295
    | _ => False
  | _ => False

/-- A call that changes one block, or lays one. -/
def evEffC (P : Program) (G : Nat → Option (List V)) (o : Oper) (σ : St) (K : V → Heap → Nat → Prop) : Prop :=
  match o.op with
  | .call { callee := .value f, args, .. } => match σ.ev f with
    | .fn (.func g) a b => (∃ fn, P.funcs[g]? = some fn ∧ fn.body.isSome ∧ (fn.name == "runtime.NumGoroutine") = false) ∧
        ∃ v H' id, StCall P G g ((a ++ (args.toList.map σ.ev) ++ b).map V.strip) σ.H (fun r H'' => H'' = H' ∧ r = v) ∧ (∀ i, i ≠ id → H'[i]? = σ.H[i]?) ∧ σ.H.length ≤ H'.length ∧ K v H' id
    | _ => False
  | _ => False

def evEff (P : Program) (G : Nat → Option (List V)) (fx : Bool) (o : Oper) (σ : St) (K : V → Heap → Nat → Prop) : Prop :=
  match fx with
  | true => evEffC P G o σ K
  | false => evEffN P G o σ K

def isCall : Op → Bool
  | .call _ => true
  | _ => false
/-- Does it lay a new block and change none? -/
def isLay : Op → Bool
  | .alloc _ | .box .. | .makeSlice .. => true
  | _ => false

/-- A call of which only is known what the blocks are afterwards. -/
def noId : Nat := 4294967295

/-- How the blocks have changed. -/
structure StepH (o : Op) (id : Nat) (H H' : Heap) : Prop where
  off : (isCall o = false ∨ id ≠ noId) → ∀ i, i ≠ id → H'[i]? = H[i]?
  len : (isCall o = false ∨ id ≠ noId) → H.length ≤ H'.length
  pre : isLay o = true → PreH H H'
  new : isLay o = true → id = H.length

theorem evStore_ptr {t : TypeId} {σ : St} {x : V} {k : St → Prop} {id off : Nat} (h : evStore P t σ x k (.ptr id off)) :
    ∃ b, k { σ with H := σ.H.set id b } ∧ ∀ (σ' : St) (k' : St → Prop), σ'.H = σ.H → k' { σ' with H := σ.H.set id b } → evStore P t σ' x k' (.ptr id off) := by
  simp only [evStore] at h
  split at h
  · rename_i e vs hH
    split at h
    · rename_i cs n hc ht
      obtain ⟨h1, h2, h3, h4⟩ := h
      refine ⟨_, h4, fun σ' k' hH' hk => ?_⟩
      simp only [evStore, hH', hH, hc, ht]
      exact ⟨h1, h2, h3, hk⟩
    · exact h.elim
  · exact h.elim

theorem pre_lay {H : Heap} {t : TypeId} {cs : List V} (h : (cs.all fun v => !v.isCls) = true) : PreH H (H ++ [some (.cells t cs)]) :=
  ⟨[some (.cells t cs)], fun k => by
    show ((cs.any (V.hasCls k)) || false) = false
    rw [noCls_any h k]; rfl, rfl⟩

theorem lay_off {H : Heap} {b : Option Blk} {i : Nat} (h : i ≠ H.length) : (H ++ [b])[i]? = H[i]? := by
  by_cases hl : i < H.length
  · rw [List.getElem?_append_left hl]
  · rw [List.getElem?_append_right (by omega), List.getElem?_eq_none (by omega : H.length ≤ i), List.getElem?_eq_none]
    simp; omega

theorem all_flat {z : List V} (h : (z.all fun v => !v.isCls) = true) (n : Nat) : ((List.replicate n z).flatten.all fun v => !v.isCls) = true := by
  rw [List.all_eq_true] at h ⊢
  intro x hx
  obtain ⟨l, hl, hx⟩ := List.mem_flatten.1 hx
  rw [List.eq_of_mem_replicate hl] at hx
  exact h x hx

theorem evEffN_ex {o : Oper} {σ : St} {K : V → Heap → Nat → Prop} (h : evEffN P G o σ K) :
    ∃ v H' id, K v H' id ∧ StepH o.op id σ.H H' ∧ ∀ σ', σ'.H = σ.H → (∀ x ∈ o.op.operands, σ'.ev x = σ.ev x) → ∀ ro a w e, RSt G σ' a w e →
      OpWp P G ro o σ' a w e fun v' τ => (τ = { σ' with H := H' } ∨ (isVCall o = true ∧ τ = σ'.afterCall H')) ∧ v' = v := by
  unfold evEffN at h
  split at h
  · rename_i t a x ho
    split at h
    · rename_i id off hv
      obtain ⟨b, hk, hall⟩ := evStore_ptr h
      refine ⟨_, _, _, hk, ⟨fun _ i hi => ?_, fun _ => by simp, (fun hl => by rw [ho] at hl; cases hl), (fun hl => by rw [ho] at hl; cases hl)⟩, fun σ' hH hops ro act w e hst => evOp_sound hst ?_⟩
      · show (σ.H.set id b)[i]? = _
        rw [List.getElem?_set_ne (fun h => hi h.symm)]
      · simp only [evOp, ho]
        rw [hops a (by simp [ho, Op.operands]), hv, hops x (by simp [ho, Op.operands])]
        exact hall σ' _ hH (by simp)
    · exact h.elim
  · rename_i t ho
    split at h
    · rename_i cs hz
      obtain ⟨hc, h⟩ := h
      refine ⟨_, _, _, h, ⟨fun _ i hi => lay_off hi, fun _ => by simp, fun _ => pre_lay hc, fun _ => rfl⟩, fun σ' hH hops ro act w e hst => evOp_sound hst ?_⟩
      simp only [evOp, ho, hz]
      rw [hH]
      exact ⟨.inl rfl, rfl⟩
    · exact h.elim
  · rename_i t x ho
    split at h
    · rename_i cs hz
      obtain ⟨hc, h⟩ := h
      refine ⟨_, _, _, h, ⟨fun _ i hi => lay_off hi, fun _ => by simp, fun _ => pre_lay hc, fun _ => rfl⟩, fun σ' hH hops ro act w e hst => evOp_sound hst ?_⟩
      simp only [evOp, ho]
      rw [hops x (by simp [ho, Op.operands]), hz]
      simp only
      rw [hH]
      exact ⟨.inl rfl, rfl⟩
    · exact h.elim
  · rename_i t n c ho
    split at h
    · rename_i el sz bytes k1 a k2 b hsl hn hc
      split at h
      · rename_i z hz
        obtain ⟨hcl, hzs, hcond, hK⟩ := h
        refine ⟨_, _, _, hK, ⟨fun _ i hi => lay_off hi, fun _ => by simp, fun _ => pre_lay (all_flat hcl _), fun _ => rfl⟩, fun σ' hH hops ro act w e hst => evOp_sound hst ?_⟩
        simp only [evOp, ho]
        rw [hops n (by simp [ho, Op.operands]), hops c (by simp [ho, Op.operands]), hn, hc]
        unfold evMake
        rw [hsl]
        simp only
        rw [hz]
        simp only
        rw [hH]
        exact ⟨hzs.1, hzs.2, hcond, .inl rfl, rfl⟩
      · exact h.elim
    · exact h.elim
  · rename_i f args ts ho
    split at h
    · rename_i g a b hf
      obtain ⟨hfn, v, H', hcall, hK⟩ := h
      refine ⟨v, H', 4294967295, hK, ⟨(fun hl => by rcases hl with hl | hl; · { rw [ho] at hl; cases hl }; · exact absurd rfl hl), (fun hl => by rcases hl with hl | hl; · { rw [ho] at hl; cases hl }; · exact absurd rfl hl), (fun hl => by rw [ho] at hl; cases hl), (fun hl => by rw [ho] at hl; cases hl)⟩, fun σ' hH hops ro act w e hst => evOp_sound hst ?_⟩
      have hev : σ'.ev f = .fn (.func g) a b := by rw [hops f (by simp [ho, Op.operands, Call.operands]), hf]
      have hargs : args.toList.map σ'.ev = args.toList.map σ.ev := List.map_congr_left fun x hx => hops x (by simp [ho, Op.operands, Call.operands, Array.mem_toList_iff.1 hx])
      simp only [evOp, ho, hev]
      refine ⟨hfn, ?_⟩
      rw [hargs, hH]
      exact hcall.mono fun r H'' ⟨h1, h2⟩ => ⟨.inr ⟨by unfold isVCall; rw [ho], by rw [h1]⟩, h2⟩
    · exact h.elim
  · exact h.elim


theorem evEffC_ex {o : Oper} {σ : St} {K : V → Heap → Nat → Prop} (h : evEffC P G o σ K) :
    ∃ v H' id, K v H' id ∧ StepH o.op id σ.H H' ∧ ∀ σ', σ'.H = σ.H → (∀ x ∈ o.op.operands, σ'.ev x = σ.ev x) → ∀ ro a w e, RSt G σ' a w e →
      OpWp P G ro o σ' a w e fun v' τ => (τ = { σ' with H := H' } ∨ (isVCall o = true ∧ τ = σ'.afterCall H')) ∧ v' = v := by
  unfold evEffC at h
  split at h
  · rename_i f args ts ho
    split at h
    · rename_i g a b hf
      obtain ⟨hfn, v, H', id, hcall, hoff, hlen, hK⟩ := h
      refine ⟨v, H', id, hK, ⟨fun _ => hoff, fun _ => hlen, (fun hl => by rw [ho] at hl; cases hl), (fun hl => by rw [ho] at hl; cases hl)⟩, fun σ' hH hops ro act w e hst => evOp_sound hst ?_⟩
      have hev : σ'.ev f = .fn (.func g) a b := by rw [hops f (by simp [ho, Op.operands, Call.operands]), hf]
      have hargs : args.toList.map σ'.ev = args.toList.map σ.ev := List.map_congr_left fun x hx => hops x (by simp [ho, Op.operands, Call.operands, Array.mem_toList_iff.1 hx])
      simp only [evOp, ho, hev]
      refine ⟨hfn, ?_⟩
      rw [hargs, hH]
      exact hcall.mono fun r H'' ⟨h1, h2⟩ => ⟨.inr ⟨by unfold isVCall; rw [ho], by rw [h1]⟩, h2⟩
    · exact h.elim
  · exact h.elim

theorem evEff_ex {fx : Bool} {o : Oper} {σ : St} {K : V → Heap → Nat → Prop} (h : evEff P G fx o σ K) :
    ∃ v H' id, K v H' id ∧ StepH o.op id σ.H H' ∧ ∀ σ', σ'.H = σ.H → (∀ x ∈ o.op.operands, σ'.ev x = σ.ev x) → ∀ ro a w e, RSt G σ' a w e →
      OpWp P G ro o σ' a w e fun v' τ => (τ = { σ' with H := H' } ∨ (isVCall o = true ∧ τ = σ'.afterCall H')) ∧ v' = v := by
  cases fx with
  | true => exact evEffC_ex h
  | false => exact evEffN_ex h

/-- The block that a load looks at. -/
def addrOf (G : Nat → Option (List V)) (o : Oper) (σ : St) : Option Nat :=
  match o.op with
  | .load _ a => match asRp G (σ.ev a) with
    | .ptr i _ => some i
    | _ => none
  | _ => none

def memN (i : Nat) (l : List Nat) : Bool := l.any (Nat.beq i)

/-- The walk in the order of the text. -/
def evG (P : Program) (G : Nat → Option (List V)) (all : List Oper) (eff fx : List Nat) : List Oper → Nat → St → List (Nat × Nat) → List (Nat × Option Nat) → (St → List (Nat × Nat) → List (Nat × Option Nat) → Prop) → Prop
  | [], _, σ, TL, AL, k => k σ TL AL
  | o :: rest, i, σ, TL, AL, k =>
    match memN i eff with
    | true => o.guard = none ∧ evEff P G (memN i fx) o σ fun v H' id => dq all H' = dq all σ.H ∧ evG P G all eff fx rest (i + 1) (({ σ with H := H' } : St).put o.dst (V.demote (dq all σ.H) v)) ((i, id) :: TL) AL k
    | false => match o.guard with
      | none => evQG P G (memN i fx) o σ fun v => evG P G all eff fx rest (i + 1) (σ.put o.dst (V.demote (dq all σ.H) v)) TL ((i, addrOf G o σ) :: AL) k
      | some (j, want) => match yieldedV all σ j with
        | some (.im (.bool b)) => (b = want → evQG P G (memN i fx) o σ fun v => evG P G all eff fx rest (i + 1) (σ.put o.dst (V.demote (dq all σ.H) v)) TL ((i, addrOf G o σ) :: AL) k) ∧
            (b ≠ want → evG P G all eff fx rest (i + 1) (σ.put o.dst (.tup [])) TL AL k)
        | some (.tup []) => evG P G all eff fx rest (i + 1) (σ.put o.dst (.tup [])) TL AL k
        | _ => False

/-- How many of them lie ahead. -/
def rankG (eff : List Nat) (i : Nat) : Nat := (List.range i).countP fun j => memN j eff
theorem rankG_succ (eff : List Nat) (i : Nat) : rankG eff (i + 1) = rankG eff i + if memN i eff then 1 else 0 := by
  unfold rankG
  rw [List.range_succ, List.countP_append]
  simp [List.countP_cons]

def TSG (ops : List Oper) (eff : List Nat) (vals : Nat → V) (Hs : Nat → Heap) (σ : St) (j : Nat) : St := stL ops ops.length vals { σ with H := Hs (rankG eff j) } fun l => decide (l < j)

/-- What is known of an operation. -/
def KnowG (P : Program) (G : Nat → Option (List V)) (ops : List Oper) (eff fx : List Nat) (vals : Nat → V) (Hs : Nat → Heap) (T : Nat → Nat) (A : Nat → Option (Option Nat)) (σ : St) (j : Nat) (o : Oper) : Prop :=
  match memN j eff with
  | true => o.guard = none ∧ V.demote (dq ops (Hs (rankG eff j))) (vals j) = vals j ∧ dq ops (Hs (rankG eff j + 1)) = dq ops (Hs (rankG eff j)) ∧ StepH o.op (T j) (Hs (rankG eff j)) (Hs (rankG eff j + 1)) ∧
      ∀ σ', σ'.H = Hs (rankG eff j) → (∀ x ∈ o.op.operands, σ'.ev x = (TSG ops eff vals Hs σ j).ev x) → ∀ ro a w e, RSt G σ' a w e →
        OpWp P G ro o σ' a w e fun v' τ => (τ = { σ' with H := Hs (rankG eff j + 1) } ∨ (isVCall o = true ∧ τ = σ'.afterCall (Hs (rankG eff j + 1)))) ∧ vals j = V.demote (dq ops (Hs (rankG eff j))) v'
  | false => V.demote (dq ops (Hs (rankG eff j))) (vals j) = vals j ∧
      ((Want ops o (TSG ops eff vals Hs σ j) true ∧ A j = some (addrOf G o (TSG ops eff vals Hs σ j)) ∧ LoadAt G o (TSG ops eff vals Hs σ j) ∧ ∃ v, vals j = V.demote (dq ops (Hs (rankG eff j))) v ∧
        ∀ σ', AtH G (memN j fx) o (TSG ops eff vals Hs σ j) σ'.H → (∀ x ∈ o.op.operands, σ'.ev x = (TSG ops eff vals Hs σ j).ev x) → ∀ ro a w e, RSt G σ' a w e →
          OpWp P G ro o σ' a w e fun v' τ => (τ = σ' ∨ (isVCall o = true ∧ τ = σ'.afterCall σ'.H)) ∧ v' = v) ∨
      (Want ops o (TSG ops eff vals Hs σ j) false ∧ vals j = .tup []))

theorem tsg_congr {ops : List Oper} {eff : List Nat} {vals vals' : Nat → V} {Hs Hs' : Nat → Heap} {σ : St} {j : Nat} (hv : ∀ l, l < j → vals' l = vals l) (hH : Hs' (rankG eff j) = Hs (rankG eff j)) :
    TSG ops eff vals' Hs' σ j = TSG ops eff vals Hs σ j := by
  unfold TSG
  rw [hH]
  exact stL_congr fun l hl => hv l (by simpa using hl)

theorem knowG_congr {ops : List Oper} {eff fx : List Nat} {vals vals' : Nat → V} {Hs Hs' : Nat → Heap} {T T' : Nat → Nat} {A A' : Nat → Option (Option Nat)} {σ : St} {j : Nat} {o : Oper}
    (hv : ∀ l, l ≤ j → vals' l = vals l) (hH : Hs' (rankG eff j) = Hs (rankG eff j)) (hH1 : memN j eff = true → Hs' (rankG eff j + 1) = Hs (rankG eff j + 1)) (hT : T' j = T j) (hA : A' j = A j)
    (h : KnowG P G ops eff fx vals Hs T A σ j o) : KnowG P G ops eff fx vals' Hs' T' A' σ j o := by
  have ht := tsg_congr (ops := ops) (σ := σ) (fun l hl => hv l (by omega)) hH
  unfold KnowG at *
  rw [ht, hv j (Nat.le_refl _), hH, hT, hA]
  split at h
  · rename_i he
    rw [hH1 he]
    exact h
  · exact h

theorem evG_vals {ops : List Oper} (hok : DrawOk ops ops.length) {eff fx : List Nat} (σ : St) (k : St → List (Nat × Nat) → List (Nat × Option Nat) → Prop) :
    ∀ (m i : Nat) (vals : Nat → V) (Hs : Nat → Heap) (TL : List (Nat × Nat)) (AL : List (Nat × Option Nat)), i + m = ops.length → evG P G ops eff fx (ops.drop i) i (TSG ops eff vals Hs σ i) TL AL k →
    ∃ (vals' : Nat → V) (Hs' : Nat → Heap) (TL' : List (Nat × Nat)) (AL' : List (Nat × Option Nat)), (∀ j, j < i → vals' j = vals j) ∧ (∀ n, n ≤ rankG eff i → Hs' n = Hs n) ∧
      (∀ j, j < i → TL'.lookup j = TL.lookup j ∧ AL'.lookup j = AL.lookup j) ∧
      (∀ j o, i ≤ j → ops[j]? = some o → KnowG P G ops eff fx vals' Hs' (fun j => (TL'.lookup j).getD 0) (fun j => AL'.lookup j) σ j o ∧ (memN j eff = true → (TL'.lookup j).isSome)) ∧ k (TSG ops eff vals' Hs' σ ops.length) TL' AL' := by
  intro m
  induction m with
  | zero =>
    intro i vals Hs TL AL hm h
    obtain rfl : i = ops.length := by omega
    rw [List.drop_length] at h
    exact ⟨vals, Hs, TL, AL, fun _ _ => rfl, fun _ _ => rfl, fun _ _ => ⟨rfl, rfl⟩, fun j o h1 h2 => by have := (List.getElem?_eq_some_iff.1 h2).1; omega, h⟩
  | succ m ih =>
    intro i vals Hs TL AL hm h
    have hi : i < ops.length := by omega
    have ho : ops[i]? = some ops[i] := List.getElem?_eq_getElem hi
    rw [List.drop_eq_getElem_cons hi] at h
    -- one step: a value, blocks, what is noted
    have step : ∀ (u : V) (Hs1 : Nat → Heap) (TL1 : List (Nat × Nat)) (AL1 : List (Nat × Option Nat)), (∀ n, n ≤ rankG eff i → Hs1 n = Hs n) → (∀ j, j ≠ i → TL1.lookup j = TL.lookup j ∧ AL1.lookup j = AL.lookup j) →
        KnowG P G ops eff fx (fun j => if j = i then u else vals j) Hs1 (fun j => (TL1.lookup j).getD 0) (fun j => AL1.lookup j) σ i ops[i] → (memN i eff = true → (TL1.lookup i).isSome) →
        evG P G ops eff fx (ops.drop (i + 1)) (i + 1) (TSG ops eff (fun j => if j = i then u else vals j) Hs1 σ (i + 1)) TL1 AL1 k →
        ∃ (vals' : Nat → V) (Hs' : Nat → Heap) (TL' : List (Nat × Nat)) (AL' : List (Nat × Option Nat)), (∀ j, j < i → vals' j = vals j) ∧ (∀ n, n ≤ rankG eff i → Hs' n = Hs n) ∧
          (∀ j, j < i → TL'.lookup j = TL.lookup j ∧ AL'.lookup j = AL.lookup j) ∧
          (∀ j o, i ≤ j → ops[j]? = some o → KnowG P G ops eff fx vals' Hs' (fun j => (TL'.lookup j).getD 0) (fun j => AL'.lookup j) σ j o ∧ (memN j eff = true → (TL'.lookup j).isSome)) ∧ k (TSG ops eff vals' Hs' σ ops.length) TL' AL' := by
      intro u Hs1 TL1 AL1 hHs hTL hK hTs hrest
      obtain ⟨vals', Hs', TL', AL', h1, h2, h3, h4, h5⟩ := ih (i + 1) _ Hs1 TL1 AL1 (by omega) hrest
      have hr := rankG_succ eff i
      refine ⟨vals', Hs', TL', AL', fun j hj => ?_, fun n hn => ?_, fun j hj => ?_, fun j o hj hjo => ?_, h5⟩
      · have := h1 j (by omega)
        simp only [show j ≠ i by omega, if_false] at this
        exact this
      · rw [h2 n (by omega)]; exact hHs n hn
      · have := h3 j (by omega)
        exact ⟨this.1.trans (hTL j (by omega)).1, this.2.trans (hTL j (by omega)).2⟩
      · by_cases hji : j = i
        · subst hji
          rw [ho] at hjo
          cases hjo
          have h33 := h3 j (by omega)
          refine ⟨knowG_congr (fun l hl => ?_) (h2 _ (by omega)) (fun he => h2 _ (by rw [hr, if_pos he]; exact Nat.le_refl _)) (by simp only [h33.1]) h33.2 hK, fun he => by rw [h33.1]; exact hTs he⟩
          exact h1 l (by omega)
        · exact h4 j o (by omega) hjo
    have hts : ∀ u, TSG ops eff (fun j => if j = i then u else vals j) Hs σ i = TSG ops eff vals Hs σ i := fun u => tsg_congr (fun l hl => by simp [show l ≠ i by omega]) rfl
    have hput : ∀ (u : V) (Hs1 : Nat → Heap), (({ TSG ops eff vals Hs σ i with H := Hs1 (rankG eff (i + 1)) } : St)).put ops[i].dst u = TSG ops eff (fun j => if j = i then u else vals j) Hs1 σ (i + 1) := by
      intro u Hs1
      have e1 : ({ TSG ops eff vals Hs σ i with H := Hs1 (rankG eff (i + 1)) } : St) = stL ops ops.length (fun j => if j = i then u else vals j) { σ with H := Hs1 (rankG eff (i + 1)) } fun l => decide (l < i) := by
        rw [← hts u]
        rfl
      have e3 := stL_put hok (fun j => if j = i then u else vals j) ({ σ with H := Hs1 (rankG eff (i + 1)) } : St) (fun l => decide (l < i)) hi ho
      simp only [if_true] at e3
      rw [e1, e3]
      unfold TSG
      congr 1
      funext j
      by_cases hj : j = i
      · simp [hj]
      · simp only [hj, decide_false, Bool.or_false, decide_eq_decide]
        omega
    have hrs := rankG_succ eff i
    simp only [evG] at h
    split at h
    · rename_i he
      obtain ⟨hg, h⟩ := h
      obtain ⟨v, H', id, ⟨hdq, hrest⟩, hstep, hop⟩ := evEff_ex h
      rw [if_pos he] at hrs
      have hHs1 : ∀ n, n ≤ rankG eff i → (fun n => if n = rankG eff i + 1 then H' else Hs n) n = Hs n := fun n hn => by simp [show n ≠ rankG eff i + 1 by omega]
      have hlast : (fun n => if n = rankG eff i + 1 then H' else Hs n) (rankG eff (i + 1)) = H' := by simp [hrs]
      have hH0 : (TSG ops eff vals Hs σ i).H = Hs (rankG eff i) := rfl
      rw [hH0] at hrest hdq
      refine step (V.demote (dq ops (Hs (rankG eff i))) v) (fun n => if n = rankG eff i + 1 then H' else Hs n) ((i, id) :: TL) AL hHs1 (fun j hj => ⟨?_, rfl⟩) ?_ (fun _ => by simp [List.lookup]) ?_
      · have : (j == i) = false := by simpa using hj
        simp [List.lookup, this]
      · unfold KnowG
        rw [he]
        have e1 : (fun n => if n = rankG eff i + 1 then H' else Hs n) (rankG eff i) = Hs (rankG eff i) := hHs1 _ (Nat.le_refl _)
        have e2 : (fun n => if n = rankG eff i + 1 then H' else Hs n) (rankG eff i + 1) = H' := by simp
        have e3 : TSG ops eff (fun j => if j = i then V.demote (dq ops (Hs (rankG eff i))) v else vals j) (fun n => if n = rankG eff i + 1 then H' else Hs n) σ i = TSG ops eff vals Hs σ i := tsg_congr (fun l hl => by simp [show l ≠ i by omega]) e1
        rw [e3, e1, e2]
        simp only [if_true]
        refine ⟨hg, demote_demote _ _, hdq, by rw [hH0] at hstep; simpa [List.lookup] using hstep, fun σ' hH hops ro a w e hst => (hop σ' hH hops ro a w e hst).mono fun v' τ ⟨h1, h2⟩ => ⟨h1, by rw [h2]⟩⟩
      · have e4 := hput (V.demote (dq ops (Hs (rankG eff i))) v) (fun n => if n = rankG eff i + 1 then H' else Hs n)
        rw [← e4]
        have e5 : (if rankG eff (i + 1) = rankG eff i + 1 then H' else Hs (rankG eff (i + 1))) = H' := if_pos hrs
        show evG P G ops eff fx (ops.drop (i + 1)) (i + 1) ((({ TSG ops eff vals Hs σ i with H := (if rankG eff (i + 1) = rankG eff i + 1 then H' else Hs (rankG eff (i + 1))) } : St)).put ops[i].dst (V.demote (dq ops (Hs (rankG eff i))) v)) ((i, id) :: TL) AL k
        rw [e5]
        exact hrest
    · rename_i he
      rw [if_neg (by rw [he]; simp), Nat.add_zero] at hrs
      have hlast : Hs (rankG eff (i + 1)) = Hs (rankG eff i) := by rw [hrs]; rfl
      have hself : ∀ u, (TSG ops eff vals Hs σ i).put ops[i].dst u = TSG ops eff (fun j => if j = i then u else vals j) Hs σ (i + 1) := fun u => by
        rw [← hput u Hs, hlast]
        rfl
      have hlk : ∀ (x : Option Nat) j, j ≠ i → List.lookup j ((i, x) :: AL) = AL.lookup j := fun x j hj => by
        have : (j == i) = false := by simpa using hj
        simp [List.lookup, this]
      have run : Want ops ops[i] (TSG ops eff vals Hs σ i) true → evQG P G (memN i fx) ops[i] (TSG ops eff vals Hs σ i) (fun v => evG P G ops eff fx (ops.drop (i + 1)) (i + 1) ((TSG ops eff vals Hs σ i).put ops[i].dst (V.demote (dq ops (TSG ops eff vals Hs σ i).H) v)) TL ((i, addrOf G ops[i] (TSG ops eff vals Hs σ i)) :: AL) k) →
          ∃ (vals' : Nat → V) (Hs' : Nat → Heap) (TL' : List (Nat × Nat)) (AL' : List (Nat × Option Nat)), (∀ j, j < i → vals' j = vals j) ∧ (∀ n, n ≤ rankG eff i → Hs' n = Hs n) ∧
            (∀ j, j < i → TL'.lookup j = TL.lookup j ∧ AL'.lookup j = AL.lookup j) ∧
            (∀ j o, i ≤ j → ops[j]? = some o → KnowG P G ops eff fx vals' Hs' (fun j => (TL'.lookup j).getD 0) (fun j => AL'.lookup j) σ j o ∧ (memN j eff = true → (TL'.lookup j).isSome)) ∧ k (TSG ops eff vals' Hs' σ ops.length) TL' AL' := by
        intro hw h
        obtain ⟨v, hrest, hat, hop⟩ := evQG_ex h
        have hH0 : (TSG ops eff vals Hs σ i).H = Hs (rankG eff i) := rfl
        rw [hself, hH0] at hrest
        refine step (V.demote (dq ops (Hs (rankG eff i))) v) Hs TL _ (fun _ _ => rfl) (fun j hj => ⟨rfl, hlk _ j hj⟩) ?_ (fun h => by rw [he] at h; cases h) hrest
        unfold KnowG
        rw [he, hts]
        simp only [if_true]
        exact ⟨demote_demote _ _, .inl ⟨hw, by simp [List.lookup], hat, v, rfl, hop⟩⟩
      have skip : Want ops ops[i] (TSG ops eff vals Hs σ i) false → evG P G ops eff fx (ops.drop (i + 1)) (i + 1) ((TSG ops eff vals Hs σ i).put ops[i].dst (.tup [])) TL AL k →
          ∃ (vals' : Nat → V) (Hs' : Nat → Heap) (TL' : List (Nat × Nat)) (AL' : List (Nat × Option Nat)), (∀ j, j < i → vals' j = vals j) ∧ (∀ n, n ≤ rankG eff i → Hs' n = Hs n) ∧
            (∀ j, j < i → TL'.lookup j = TL.lookup j ∧ AL'.lookup j = AL.lookup j) ∧
            (∀ j o, i ≤ j → ops[j]? = some o → KnowG P G ops eff fx vals' Hs' (fun j => (TL'.lookup j).getD 0) (fun j => AL'.lookup j) σ j o ∧ (memN j eff = true → (TL'.lookup j).isSome)) ∧ k (TSG ops eff vals' Hs' σ ops.length) TL' AL' := by
        intro hw h
        rw [hself] at h
        refine step (.tup []) Hs TL AL (fun _ _ => rfl) (fun j hj => ⟨rfl, rfl⟩) ?_ (fun h => by rw [he] at h; cases h) h
        unfold KnowG
        rw [he, hts]
        simp only [if_true]
        exact ⟨rfl, .inr ⟨hw, by simp⟩⟩
      split at h
      · rename_i hg
        exact run (by unfold Want; rw [hg]) h
      · rename_i j want hg
        split at h
        · rename_i b hv
          by_cases hb : b = want
          · exact run (by unfold Want; rw [hg]; exact .inl ⟨b, hv, by simp [hb]⟩) (h.1 hb)
          · exact skip (by unfold Want; rw [hg]; exact .inl ⟨b, hv, by simp [hb]⟩) (h.2 hb)
        · rename_i hv
          exact skip (by unfold Want; rw [hg]; exact .inr ⟨hv, rfl⟩) h
        · exact h.elim


/-! ### every order -/
def isLoad : Op → Bool
  | .load .. => true
  | _ => false

def okG (ops : List Oper) (eff fx : List Nat) (pr : List (Nat × Nat)) : Bool :=
  let ms := masksG (ops.map Bnd) []
  (eff.all fun c => Nat.blt c ops.length && eff.all fun c' => !Nat.blt c c' || (ms.getD c' 0).testBit c) &&
  (List.range ops.length).all fun j => memN j eff || match ops[j]? with
    | none => true
    | some o => heapFree o.op || memN j fx || eff.all fun c =>
        (if j < c then (ms.getD c 0).testBit j else (ms.getD j 0).testBit c) ||
        (match ops[c]? with
          | some oc => (Nat.blt j c && isLay oc.op) || (isLoad o.op && pr.any fun x => Nat.beq x.1 j && Nat.beq x.2 c)
          | none => false)

structure OkG (ops : List Oper) (eff fx : List Nat) (pr : List (Nat × Nat)) : Prop where
  lt : ∀ c, memN c eff = true → c < ops.length
  tot : ∀ c c', memN c eff = true → memN c' eff = true → c < c' → ((masksG (ops.map Bnd) []).getD c' 0).testBit c = true
  oth : ∀ j o, memN j eff = false → ops[j]? = some o → heapFree o.op = true ∨ memN j fx = true ∨ ∀ c, memN c eff = true →
    (j < c ∧ ((masksG (ops.map Bnd) []).getD c 0).testBit j = true) ∨ (c < j ∧ ((masksG (ops.map Bnd) []).getD j 0).testBit c = true) ∨
    ∃ oc, ops[c]? = some oc ∧ ((j < c ∧ isLay oc.op = true) ∨ (isLoad o.op = true ∧ (j, c) ∈ pr))

theorem memN_iff {i : Nat} {l : List Nat} : memN i l = true ↔ i ∈ l := by
  unfold memN
  rw [List.any_eq_true]
  exact ⟨fun ⟨x, hx, h⟩ => Nat.eq_of_beq_eq_true h ▸ hx, fun h => ⟨i, h, Nat.beq_refl i⟩⟩

theorem okG_spec {ops : List Oper} {eff fx : List Nat} {pr : List (Nat × Nat)} (h : okG ops eff fx pr = true) : OkG ops eff fx pr := by
  unfold okG at h
  simp only [Bool.and_eq_true, List.all_eq_true] at h
  obtain ⟨h1, h2⟩ := h
  refine ⟨fun c hc => Nat.blt_eq.mp (h1 c (memN_iff.1 hc)).1, fun c c' hc hc' hlt => ?_, fun j o hj ho => ?_⟩
  · have := (h1 c (memN_iff.1 hc)).2 c' (memN_iff.1 hc')
    rw [Bool.or_eq_true] at this
    rcases this with h3 | h3
    · have : Nat.blt c c' = true := Nat.blt_eq.mpr hlt
      rw [this] at h3; cases h3
    · exact h3
  · have hjl : j < ops.length := (List.getElem?_eq_some_iff.1 ho).1
    have := h2 j (List.mem_range.2 hjl)
    rw [hj, ho] at this
    simp only [Bool.false_or, Bool.or_eq_true] at this
    rcases this with (h3 | h3) | h3
    · exact .inl h3
    · exact .inr (.inl h3)
    · refine .inr (.inr fun c hc => ?_)
      rw [List.all_eq_true] at h3
      have h4 := h3 c (memN_iff.1 hc)
      rw [Bool.or_eq_true] at h4
      have hne : j ≠ c := fun h => by subst h; rw [hj] at hc; cases hc
      rcases h4 with h4 | h4
      · by_cases hjc : j < c
        · rw [if_pos hjc] at h4; exact .inl ⟨hjc, h4⟩
        · rw [if_neg hjc] at h4; exact .inr (.inl ⟨by omega, h4⟩)
      · refine .inr (.inr ?_)
        split at h4
        · rename_i oc hoc
          refine ⟨oc, hoc, ?_⟩
          simp only [Bool.or_eq_true, Bool.and_eq_true, Bool.not_eq_true', List.any_eq_true] at h4
          rcases h4 with ⟨h5, h6⟩ | ⟨h5, x, hx, h7, h8⟩
          · exact .inl ⟨Nat.blt_eq.mp h5, h6⟩
          · have e1 := Nat.eq_of_beq_eq_true h7
            have e2 := Nat.eq_of_beq_eq_true h8
            obtain ⟨x1, x2⟩ := x
            simp only at e1 e2
            subst e1; subst e2
            exact .inr ⟨h5, hx⟩
        · cases h4

/-- Loads that may come ahead of, or behind, a change look at other blocks. -/
def chkG (pr : List (Nat × Nat)) (TL : List (Nat × Nat)) (AL : List (Nat × Option Nat)) : Bool :=
  pr.all fun x => match AL.lookup x.1 with
    | some (some a) => match TL.lookup x.2 with
      | some id => !Nat.beq a id && !Nat.beq id noId
      | none => false
    | _ => true

theorem rankG_le {eff : List Nat} {i j : Nat} (h : i ≤ j) : rankG eff i ≤ rankG eff j := by
  induction j with
  | zero =>
    obtain rfl : i = 0 := by omega
    exact Nat.le_refl _
  | succ j ih =>
    rw [rankG_succ]
    by_cases hj : i = j + 1
    · subst hj; rw [rankG_succ]; exact Nat.le_refl _
    · have := ih (by omega); omega
theorem rankG_lt {eff : List Nat} {i j : Nat} (hi : memN i eff = true) (h : i < j) : rankG eff i < rankG eff j := by
  have h1 := rankG_succ eff i
  rw [if_pos hi] at h1
  have := rankG_le (eff := eff) (show i + 1 ≤ j by omega)
  omega
theorem rankG_at {eff : List Nat} : ∀ (j m : Nat), m < rankG eff j → ∃ c, c < j ∧ memN c eff = true ∧ rankG eff c = m := by
  intro j
  induction j with
  | zero => intro m h; simp [rankG] at h
  | succ j ih =>
    intro m h
    rw [rankG_succ] at h
    by_cases hm : m < rankG eff j
    · obtain ⟨c, h1, h2, h3⟩ := ih m hm
      exact ⟨c, by omega, h2, h3⟩
    · split at h
      · rename_i he
        exact ⟨j, by omega, he, by omega⟩
      · omega

/-- How many of the changes have been carried out. -/
def cntG (ops : List Oper) (eff : List Nat) (L : Nat → Bool) : Nat := (List.range ops.length).countP fun j => memN j eff && L j

theorem cntG_rank {ops : List Oper} {eff : List Nat} {L : Nat → Bool} {i : Nat} (hi : i ≤ ops.length) (h : ∀ c, c < ops.length → memN c eff = true → (L c = true ↔ c < i)) : cntG ops eff L = rankG eff i := by
  unfold cntG rankG
  have h1 : (List.range ops.length).countP (fun j => memN j eff && L j) = (List.range ops.length).countP (fun j => memN j eff && decide (j < i)) := by
    refine List.countP_congr fun c hc => ?_
    have hc' := List.mem_range.1 hc
    cases he : memN c eff with
    | false => simp
    | true => simp [h c hc' he]
  rw [h1]
  obtain ⟨m, hm⟩ : ∃ m, ops.length = i + m := ⟨ops.length - i, by omega⟩
  rw [hm, List.range_add, List.countP_append]
  have e1 : (List.range i).countP (fun j => memN j eff && decide (j < i)) = (List.range i).countP fun j => memN j eff := List.countP_congr fun c hc => by
    have := List.mem_range.1 hc
    simp [this]
  have e2 : ((List.range m).map fun x => i + x).countP (fun j => memN j eff && decide (j < i)) = 0 := by
    rw [List.countP_eq_zero]
    intro c hc
    obtain ⟨x, _, rfl⟩ := List.mem_map.1 hc
    simp
  rw [e1, e2, Nat.add_zero]


theorem dqG {ops : List Oper} {eff fx : List Nat} {vals : Nat → V} {Hs : Nat → Heap} {T : Nat → Nat} {A : Nat → Option (Option Nat)} {σ : St} (hH0 : Hs 0 = σ.H)
    (hK : ∀ j o, ops[j]? = some o → KnowG P G ops eff fx vals Hs T A σ j o) : ∀ n, n ≤ rankG eff ops.length → dq ops (Hs n) = dq ops σ.H := by
  intro n
  induction n with
  | zero => intro _; rw [hH0]
  | succ n ih =>
    intro hn
    obtain ⟨c, hc, he, hr⟩ := rankG_at (eff := eff) ops.length n (by omega)
    have := hK c ops[c] (List.getElem?_eq_getElem hc)
    unfold KnowG at this
    rw [he] at this
    rw [← hr, this.2.2.1, hr]
    exact ih (by omega)

/-- From the blocks in the order of the text to those at which an operation is carried out. -/
theorem atG {ops : List Oper} {eff fx : List Nat} {pr : List (Nat × Nat)} (hg : OkG ops eff fx pr) {vals : Nat → V} {Hs : Nat → Heap} {TL : List (Nat × Nat)} {AL : List (Nat × Option Nat)} {σ : St}
    (hK : ∀ j o, ops[j]? = some o → KnowG P G ops eff fx vals Hs (fun j => (TL.lookup j).getD 0) (fun j => AL.lookup j) σ j o) (hchk : chkG pr TL AL = true)
    {i : Nat} {o : Oper} (hi : i < ops.length) (ho : ops[i]? = some o) (he : memN i eff = false) (hA : AL.lookup i = some (addrOf G o (TSG ops eff vals Hs σ i))) (hat : LoadAt G o (TSG ops eff vals Hs σ i))
    {n : Nat} (hn : n ≤ rankG eff ops.length)
    (f1 : ∀ c, memN c eff = true → c < i → ((masksG (ops.map Bnd) []).getD i 0).testBit c = true → rankG eff c < n)
    (f2 : ∀ c, memN c eff = true → i < c → ((masksG (ops.map Bnd) []).getD c 0).testBit i = true → n ≤ rankG eff c) : AtH G (memN i fx) o (TSG ops eff vals Hs σ i) (Hs n) := by
  have hne : ∀ c, memN c eff = true → c ≠ i := fun c hc h => by subst h; rw [hc] at he; cases he
  have hstep : ∀ c oc, memN c eff = true → ops[c]? = some oc → StepH oc.op ((TL.lookup c).getD 0) (Hs (rankG eff c)) (Hs (rankG eff c + 1)) := by
    intro c oc hc hoc
    have := hK c oc hoc
    unfold KnowG at this
    rw [hc] at this
    exact this.2.2.2.1
  have hH : (TSG ops eff vals Hs σ i).H = Hs (rankG eff i) := rfl
  rcases hg.oth i o he ho with h | h | hall
  · exact .inl h
  · exact .inr (.inr (.inr h))
  -- the changes between are not bound to it
  have un1 : ∀ c, memN c eff = true → rankG eff i ≤ rankG eff c → rankG eff c < n → i < c ∧ ∃ oc, ops[c]? = some oc ∧ (isLay oc.op = true ∨ (isLoad o.op = true ∧ (i, c) ∈ pr)) := by
    intro c hc h1 h2
    have hic : i < c := by
      rcases Nat.lt_trichotomy c i with h | h | h
      · have := rankG_lt hc h; omega
      · exact absurd h (hne c hc)
      · exact h
    refine ⟨hic, ?_⟩
    rcases hall c hc with ⟨_, h⟩ | ⟨h, _⟩ | ⟨oc, hoc, h⟩
    · have := f2 c hc hic h; omega
    · omega
    · exact ⟨oc, hoc, h.imp (·.2) id⟩
  have un2 : ∀ c, memN c eff = true → n ≤ rankG eff c → rankG eff c < rankG eff i → ∃ oc, ops[c]? = some oc ∧ isLoad o.op = true ∧ (i, c) ∈ pr := by
    intro c hc h1 h2
    have hic : c < i := by
      rcases Nat.lt_trichotomy c i with h | h | h
      · exact h
      · exact absurd h (hne c hc)
      · have := rankG_le (eff := eff) (Nat.le_of_lt h); omega
    rcases hall c hc with ⟨h, _⟩ | ⟨_, h⟩ | ⟨oc, hoc, h⟩
    · omega
    · have := f1 c hc hic h; omega
    · rcases h with h | h
      · omega
      · exact ⟨oc, hoc, h⟩
  by_cases hl : isLoad o.op = true
  · -- a load
    refine .inr (.inr (.inl ?_))
    unfold LoadOk
    unfold LoadAt at hat
    unfold addrOf at hA
    cases hop : o.op with
    | load t a =>
      rw [hop] at hat hA
      simp only at hat hA ⊢
      cases hv : asRp G ((TSG ops eff vals Hs σ i).ev a) with
      | ptr x off =>
        rw [hv] at hat hA
        simp only at hat hA ⊢
        rw [hH] at hat ⊢
        have hpr : ∀ c, (i, c) ∈ pr → ∃ id, TL.lookup c = some id ∧ x ≠ id ∧ id ≠ noId := by
          intro c hc
          have := List.all_eq_true.1 hchk (i, c) hc
          simp only [hA] at this
          split at this
          · rename_i id hid
            refine ⟨id, hid, fun h => ?_, fun h => ?_⟩
            · subst h
              rw [Nat.beq_refl] at this
              cases this
            · rw [h, Nat.beq_refl] at this
              simp at this
          · cases this
        rcases Nat.lt_trichotomy n (rankG eff i) with hlt | heq | hgt
        · -- earlier
          have back : ∀ d, n + d ≤ rankG eff i → (Hs n)[x]? = (Hs (n + d))[x]? := by
            intro d
            induction d with
            | zero => intro _; rfl
            | succ d ih =>
              intro hd
              rw [ih (by omega)]
              obtain ⟨c, hc, hce, hcr⟩ := rankG_at (eff := eff) ops.length (n + d) (by have := rankG_le (eff := eff) (show i ≤ ops.length by omega); omega)
              obtain ⟨oc, hoc, _, h3⟩ := un2 c hce (by omega) (by omega)
              obtain ⟨id, hid, hx, hni⟩ := hpr c h3
              have hs := (hstep c oc hce hoc).off (.inr (by rw [hid]; exact hni)) x (by rw [hid]; exact hx)
              rw [hcr] at hs
              exact hs.symm
          have := back (rankG eff i - n) (by omega)
          rw [show n + (rankG eff i - n) = rankG eff i by omega] at this
          exact this
        · rw [heq]
        · -- later
          have fwd : ∀ d, rankG eff i + d ≤ n → (Hs (rankG eff i + d))[x]? = (Hs (rankG eff i))[x]? ∧ (Hs (rankG eff i)).length ≤ (Hs (rankG eff i + d)).length := by
            intro d
            induction d with
            | zero => intro _; exact ⟨rfl, Nat.le_refl _⟩
            | succ d ih =>
              intro hd
              obtain ⟨h4, h5⟩ := ih (by omega)
              obtain ⟨c, hc, hce, hcr⟩ := rankG_at (eff := eff) ops.length (rankG eff i + d) (by omega)
              obtain ⟨hic, oc, hoc, h⟩ := un1 c hce (by omega) (by omega)
              have hst := hstep c oc hce hoc
              rw [hcr] at hst
              rcases h with h | ⟨_, h3⟩
              · have hnc : isCall oc.op = false := by cases hq : oc.op <;> first | rfl | (rw [hq] at h; cases h)
                have hid := hst.new h
                have hs := hst.off (.inl hnc) x (by rw [hid]; omega)
                exact ⟨hs.trans h4, Nat.le_trans h5 (hst.len (.inl hnc))⟩
              · obtain ⟨id, hid, hx, hni⟩ := hpr c h3
                have hs := hst.off (.inr (by rw [hid]; exact hni)) x (by rw [hid]; exact hx)
                exact ⟨hs.trans h4, Nat.le_trans h5 (hst.len (.inr (by rw [hid]; exact hni)))⟩
          have := (fwd (n - rankG eff i) (by omega)).1
          rw [show rankG eff i + (n - rankG eff i) = n by omega] at this
          exact this
      | rp cs => trivial
      | _ => rw [hv] at hat; exact hat.elim
    | _ => rw [hop] at hl; cases hl
  · -- not a load: only new blocks
    refine .inr (.inl ?_)
    have hge : rankG eff i ≤ n := by
      rcases Nat.lt_or_ge n (rankG eff i) with h | h
      · exfalso
        obtain ⟨c, hc, hce, hcr⟩ := rankG_at (eff := eff) ops.length n (by have := rankG_le (eff := eff) (show i ≤ ops.length by omega); omega)
        obtain ⟨_, _, h1, _⟩ := un2 c hce (by omega) (by omega)
        exact hl h1
      · exact h
    rw [hH]
    have fwd : ∀ d, rankG eff i + d ≤ n → PreH (Hs (rankG eff i)) (Hs (rankG eff i + d)) := by
      intro d
      induction d with
      | zero => intro _; exact PreH.rfl'
      | succ d ih =>
        intro hd
        obtain ⟨c, hc, hce, hcr⟩ := rankG_at (eff := eff) ops.length (rankG eff i + d) (by omega)
        obtain ⟨hic, oc, hoc, h⟩ := un1 c hce (by omega) (by omega)
        have hst := hstep c oc hce hoc
        rw [hcr] at hst
        rcases h with h | ⟨h1, _⟩
        · exact (ih (by omega)).trans (hst.pre h)
        · exact absurd h1 hl
    have := fwd (n - rankG eff i) (by omega)
    rwa [show rankG eff i + (n - rankG eff i) = n by omega] at this

theorem draw_g {ops : List Oper} (hok : DrawOk ops ops.length) {eff fx : List Nat} {pr : List (Nat × Nat)} (hg : OkG ops eff fx pr) {vals : Nat → V} {Hs : Nat → Heap} {TL : List (Nat × Nat)} {AL : List (Nat × Option Nat)} {σ : St}
    {Q : Exit → Act → World → Prop} {ro : Option Nat} (hd : σ.tmps.map (V.demote (dq ops σ.H)) = σ.tmps) (hH0 : Hs 0 = σ.H)
    (hK : ∀ j o, ops[j]? = some o → KnowG P G ops eff fx vals Hs (fun j => (TL.lookup j).getD 0) (fun j => AL.lookup j) σ j o) (hchk : chkG pr TL AL = true) {w0 : World} {e0 : Env}
    (hQ : ∀ a' w' e', RSt G (TSG ops eff vals Hs σ ops.length) a' w' e' → Ext σ.H w0 e0 (TSG ops eff vals Hs σ ops.length).H w' e' → Q .normal a' w') :
    ∀ (fuel : Nat) (listed : Array Bool) (a : Act) (w : World) (e : Env), listed.size = ops.length → Closed ops (fun j => listed.getD j false) →
    (ops.length ≤ fuel + (List.range ops.length).countP (fun j => listed.getD j false)) →
    RSt G (stL ops ops.length vals { σ with H := Hs (cntG ops eff fun j => listed.getD j false) } fun j => listed.getD j false) a w e →
    Ext σ.H w0 e0 (Hs (cntG ops eff fun j => listed.getD j false)) w e → wpAnyIn (FW ro) 0 P .any ops.toArray Q fuel listed a w := by
  have hdq := dqG hH0 hK
  have hcle : ∀ L, cntG ops eff L ≤ rankG eff ops.length := fun L => by
    unfold cntG rankG
    exact List.countP_mono_left fun j _ h => by
      simp only [Bool.and_eq_true] at h
      exact h.1
  have hdem : ∀ n, n ≤ rankG eff ops.length → ∀ L, (stL ops ops.length vals { σ with H := Hs n } L).tmps.map (V.demote (dq ops (Hs n))) = (stL ops ops.length vals { σ with H := Hs n } L).tmps := by
    intro n hn L
    rw [hdq n hn]
    refine List.ext_getElem? fun t => ?_
    rw [List.getElem?_map, stL_get]
    cases hv : σ.tmps[t]? with
    | none => rfl
    | some v =>
      simp only [Option.map_some, Option.some.injEq]
      have hvd : V.demote (dq ops σ.H) v = v := by
        have : (σ.tmps.map (V.demote (dq ops σ.H)))[t]? = σ.tmps[t]? := by rw [hd]
        rw [List.getElem?_map, hv] at this
        simpa using this
      cases hw : own ops ops.length t with
      | none => exact hvd
      | some j =>
        obtain ⟨hj, o, ho, _⟩ := own_some hw
        simp only
        split
        · have := hK j o ho
          have hr : rankG eff j ≤ rankG eff ops.length := rankG_le (by omega)
          unfold KnowG at this
          split at this
          · have h2 := this.2.1
            rw [hdq _ hr] at h2
            exact h2
          · have h2 := this.1
            rw [hdq _ hr] at h2
            exact h2
        · exact hvd
  have fin : ∀ (listed : Array Bool) a w e, (∀ j, j < ops.length → listed.getD j false = true) → RSt G (stL ops ops.length vals { σ with H := Hs (cntG ops eff fun j => listed.getD j false) } fun j => listed.getD j false) a w e →
      Ext σ.H w0 e0 (Hs (cntG ops eff fun j => listed.getD j false)) w e → Q .normal a w := by
    intro listed a w e hall h hx
    have hc : cntG ops eff (fun j => listed.getD j false) = rankG eff ops.length := cntG_rank (Nat.le_refl _) fun c hc _ => ⟨fun _ => hc, fun _ => hall c hc⟩
    have hst : (stL ops ops.length vals { σ with H := Hs (cntG ops eff fun j => listed.getD j false) } fun j => listed.getD j false) = TSG ops eff vals Hs σ ops.length := by
      rw [hc]
      unfold TSG
      refine st_ext rfl rfl rfl fun t => ?_
      rw [stL_get, stL_get]
      congr 1
      funext v
      cases hw : own ops ops.length t with
      | none => rfl
      | some j =>
        obtain ⟨hj, _⟩ := own_some hw
        simp [hall j hj, hj]
    rw [hst] at h
    rw [hc] at hx
    exact hQ a w e h hx
  intro fuel
  induction fuel with
  | zero =>
    intro listed a w e hs hc hf h hx
    have hallq : ∀ j, j < ops.length → listed.getD j false = true := by
      have hle := List.countP_le_length (p := fun j => listed.getD j false) (l := List.range ops.length)
      have : (List.range ops.length).countP (fun j => listed.getD j false) = (List.range ops.length).length := by
        rw [List.length_range] at hle ⊢; omega
      rw [List.countP_eq_length] at this
      exact fun j hj => this j (List.mem_range.2 hj)
    refine ⟨?_, fin listed a w e hallq h hx⟩
    refine List.eq_nil_iff_forall_not_mem.2 fun j hj => ?_
    obtain ⟨h1, o, ho, _⟩ := mem_ready.1 hj
    have hlt : j < ops.length := by
      rw [List.getElem?_toArray] at ho
      exact (List.getElem?_eq_some_iff.1 ho).1
    have := hallq j hlt
    have hjs : j < listed.size := by omega
    simp [hjs] at h1 this
    rw [this] at h1; cases h1
  | succ fuel ih =>
    intro listed a w e hs hc hf h hx
    refine ⟨fun hr => ?_, fun i hi => ?_⟩
    · -- all have been carried out
      refine fin listed a w e (fun j hj => ?_) h hx
      induction j using Nat.strongRecOn with
      | _ j ihj =>
        cases hb : listed.getD j false with
        | true => rfl
        | false =>
          exfalso
          have hjs : j < listed.size := by omega
          have : j ∈ Region.ready .any ops.toArray listed := by
            refine mem_ready.2 ⟨by simp [hjs] at hb ⊢; exact hb, ops[j], by simp [hj], fun ed hed hb => ?_⟩
            have hlt := hok.up j ops[j] (List.getElem?_eq_getElem hj) ed.on (List.mem_map.2 ⟨ed, List.mem_filter.2 ⟨by simpa using hed, hb⟩, rfl⟩)
            exact ihj ed.on hlt (by omega)
          rw [hr] at this
          cases this
    · obtain ⟨h1, o, ho, hall⟩ := mem_ready.1 hi
      rw [List.getElem?_toArray] at ho
      have hlt : i < ops.length := (List.getElem?_eq_some_iff.1 ho).1
      have his : i < listed.size := by omega
      have hbnd : ∀ e' ∈ Bnd o, listed.getD e' false = true := fun e' he' => by
        obtain ⟨ed, hed, rfl⟩ := List.mem_map.1 he'
        obtain ⟨h3, h4⟩ := List.mem_filter.1 hed
        exact hall ed (by simpa using h3) h4
      have hif : listed.getD i false = false := by simp [his] at h1 ⊢; exact h1
      have hLeq : (fun j => listed.getD j false || decide (j = i)) = fun j => (listed.setIfInBounds i true).getD j false := by
        funext j
        by_cases hji : i = j
        · subst hji
          simp [his]
        · have hji' : ¬ j = i := fun h => hji h.symm
          rw [getD_set_ne false hji]
          simp [hji']
      have next : ∀ a' w' e', RSt G (stL ops ops.length vals { σ with H := Hs (cntG ops eff fun j => (listed.setIfInBounds i true).getD j false) } fun j => (listed.setIfInBounds i true).getD j false) a' w' e' →
          Ext σ.H w0 e0 (Hs (cntG ops eff fun j => (listed.setIfInBounds i true).getD j false)) w' e' → wpAnyIn (FW ro) 0 P .any ops.toArray Q fuel (listed.setIfInBounds i true) a' w' := by
        intro a' w' e' hst' hx'
        refine ih _ a' w' e' (by simpa using hs) (fun j o' hj hL e'' he'' => ?_) ?_ hst' hx'
        · simp only [← congrFun hLeq j] at hL
          simp only [← congrFun hLeq e'']
          simp only [Bool.or_eq_true, decide_eq_true_eq] at hL ⊢
          rcases hL with hL | rfl
          · exact .inl (hc j o' hj hL e'' he'')
          · rw [ho] at hj
            cases hj
            exact .inl (hbnd e'' he'')
        · have hcnt : (List.range ops.length).countP (fun j => (listed.setIfInBounds i true).getD j false) = (List.range ops.length).countP (fun j => listed.getD j false) + 1 := by
            rw [← hLeq]
            have gen : ∀ n, (List.range n).countP (fun j => listed.getD j false || decide (j = i)) = (List.range n).countP (fun j => listed.getD j false) + if i < n then 1 else 0 := by
              intro n
              induction n with
              | zero => simp
              | succ n ihn =>
                rw [List.range_succ, List.countP_append, List.countP_append, ihn]
                simp only [List.countP_cons, List.countP_nil, Nat.zero_add]
                by_cases hni : n = i
                · subst hni
                  rw [hif]
                  simp
                · simp only [hni, decide_false, Bool.or_false]
                  by_cases h1 : i < n
                  · have h2 : i < n + 1 := by omega
                    rw [if_pos h1, if_pos h2]; omega
                  · have h2 : ¬ i < n + 1 := by omega
                    rw [if_neg h1, if_neg h2]; omega
            rw [gen, if_pos hlt]
          rw [hcnt]
          omega
      have hag := agree_stL hok vals { σ with H := Hs (cntG ops eff fun j => listed.getD j false) } (fun j => listed.getD j false) hc hlt ho hbnd hif
      have hKi := hK i o ho
      have hri : rankG eff i ≤ rankG eff ops.length := rankG_le (by omega)
      -- which changes have been carried out
      have in1 : ∀ c, memN c eff = true → c < i → ((masksG (ops.map Bnd) []).getD i 0).testBit c = true → listed.getD c false = true := fun c _ _ hb => closed_mask hok.up hc i o ho hbnd c hb
      have in2 : ∀ c, memN c eff = true → i < c → ((masksG (ops.map Bnd) []).getD c 0).testBit i = true → listed.getD c false = false := fun c hce hic hb => by
        cases hL : listed.getD c false with
        | false => rfl
        | true =>
          have hcl := hg.lt c hce
          have := closed_mask hok.up hc c ops[c] (List.getElem?_eq_getElem hcl) (fun e he => hc c ops[c] (List.getElem?_eq_getElem hcl) hL e he) i hb
          rw [hif] at this; cases this
      have pre : ∀ c c', memN c eff = true → memN c' eff = true → c < c' → listed.getD c' false = true → listed.getD c false = true := fun c c' hce hce' hcc hL => by
        have hcl := hg.lt c' hce'
        exact closed_mask hok.up hc c' ops[c'] (List.getElem?_eq_getElem hcl) (fun e he => hc c' ops[c'] (List.getElem?_eq_getElem hcl) hL e he) c (hg.tot c c' hce hce' hcc)
      cases he : memN i eff with
      | true =>
        -- a change
        unfold KnowG at hKi
        rw [he] at hKi
        obtain ⟨hgd, hdm, hdq1, hstp, hop⟩ := hKi
        have hLi : ∀ c, c < ops.length → memN c eff = true → (listed.getD c false = true ↔ c < i) := by
          intro c hcl hce
          refine ⟨fun hL => ?_, fun hlt2 => in1 c hce hlt2 (hg.tot c i hce he hlt2)⟩
          rcases Nat.lt_trichotomy c i with h2 | h2 | h2
          · exact h2
          · subst h2; rw [hif] at hL; cases hL
          · have := in2 c hce h2 (hg.tot i c he hce h2)
            rw [this] at hL; cases hL
        have hcnt : cntG ops eff (fun j => listed.getD j false) = rankG eff i := cntG_rank (by omega) hLi
        have hcnt1 : cntG ops eff (fun j => (listed.setIfInBounds i true).getD j false) = rankG eff i + 1 := by
          have hr1 : rankG eff (i + 1) = rankG eff i + 1 := by rw [rankG_succ, if_pos he]
          rw [← hr1]
          refine cntG_rank (by omega) fun c hcl hce => ?_
          simp only [← congrFun hLeq c, Bool.or_eq_true, decide_eq_true_eq]
          rw [hLi c hcl hce]
          omega
        rw [hcnt] at h hx hag
        unfold wpOpIn
        simp only [List.getElem?_toArray, ho]
        rw [want_run (b := true) h (by unfold Want; rw [hgd]), if_pos rfl]
        refine hop (stL ops ops.length vals { σ with H := Hs (rankG eff i) } fun j => listed.getD j false) rfl (fun x hx => hag.agree.2 x hx) ro a w e h _ _ fun x w' v τ e' hk' hc' hst hv hx2 => ?_
        obtain ⟨hτ, hvd⟩ := hk'
        have hτ2 : τ = stL ops ops.length vals { σ with H := Hs (rankG eff i + 1) } fun j => listed.getD j false := by
          rcases hτ with rfl | ⟨hvc, rfl⟩
          · rfl
          · refine st_ext rfl rfl rfl fun t => ?_
            have h3 := hdem (rankG eff i) hri fun j => listed.getD j false
            rw [dq_call (List.mem_of_getElem? ho) hvc] at h3
            show ((stL ops ops.length vals { σ with H := Hs (rankG eff i) } fun j => listed.getD j false).tmps.map (V.demote (heapCls (Hs (rankG eff i)))))[t]? = _
            rw [h3]
            rfl
        subst hτ2
        have hst2 := hst.put o.dst (hv.demote (dq ops (Hs (rankG eff i))))
        rw [← hvd, stL_put hok vals _ _ hlt ho] at hst2
        refine next _ _ e' ?_ ?_
        · rw [hcnt1, ← hLeq]; exact hst2
        · rw [hcnt1]; exact hx.trans hx2
      | false =>
        have hcnt1 : cntG ops eff (fun j => (listed.setIfInBounds i true).getD j false) = cntG ops eff (fun j => listed.getD j false) := by
          unfold cntG
          refine List.countP_congr fun c hcm => ?_
          simp only [← congrFun hLeq c]
          by_cases hci : c = i
          · subst hci; rw [he]; simp
          · simp [hci]
        have hcl := hcle fun j => listed.getD j false
        -- the changes ahead and behind
        have f1 : ∀ c, memN c eff = true → c < i → ((masksG (ops.map Bnd) []).getD i 0).testBit c = true → rankG eff c < cntG ops eff (fun j => listed.getD j false) := by
          intro c hce hci hb
          have hL := in1 c hce hci hb
          have hlc := hg.lt c hce
          have h3 : rankG eff (c + 1) ≤ cntG ops eff (fun j => listed.getD j false) := by
            have e1 : cntG ops eff (fun j => decide (j < c + 1)) = rankG eff (c + 1) := cntG_rank (by omega) fun d _ _ => by simp
            rw [← e1]
            unfold cntG
            refine List.countP_mono_left fun d hd hh => ?_
            simp only [Bool.and_eq_true, decide_eq_true_eq] at hh ⊢
            refine ⟨hh.1, ?_⟩
            by_cases hdc : d = c
            · subst hdc; exact hL
            · exact pre d c hh.1 hce (by omega) hL
          rw [rankG_succ, if_pos hce] at h3
          omega
        have f2 : ∀ c, memN c eff = true → i < c → ((masksG (ops.map Bnd) []).getD c 0).testBit i = true → cntG ops eff (fun j => listed.getD j false) ≤ rankG eff c := by
          intro c hce hci hb
          have hL := in2 c hce hci hb
          have hlc := hg.lt c hce
          have e1 : cntG ops eff (fun j => decide (j < c)) = rankG eff c := cntG_rank (by omega) fun d _ _ => by simp
          rw [← e1]
          unfold cntG
          refine List.countP_mono_left fun d hd hh => ?_
          simp only [Bool.and_eq_true, decide_eq_true_eq] at hh ⊢
          refine ⟨hh.1, ?_⟩
          rcases Nat.lt_trichotomy d c with h2 | h2 | h2
          · exact h2
          · subst h2; rw [hL] at hh; cases hh.2
          · have := pre c d hce hh.1 h2 hh.2
            rw [hL] at this; cases this
        unfold KnowG at hKi
        rw [he] at hKi
        obtain ⟨hdm, hK2⟩ := hKi
        have hq : QC P G ops o (stL ops ops.length vals { σ with H := Hs (cntG ops eff fun j => listed.getD j false) } fun l => decide (l < i)) (vals i) := by
          have htm : ∀ t : Nat, (stL ops ops.length vals { σ with H := Hs (cntG ops eff fun j => listed.getD j false) } fun l => decide (l < i)).tmps[t]? = (TSG ops eff vals Hs σ i).tmps[t]? := fun t => rfl
          have hev : ∀ x, (stL ops ops.length vals { σ with H := Hs (cntG ops eff fun j => listed.getD j false) } fun l => decide (l < i)).ev x = (TSG ops eff vals Hs σ i).ev x := fun x => by cases x <;> rfl
          have hwant : ∀ b, Want ops o (TSG ops eff vals Hs σ i) b → Want ops o (stL ops ops.length vals { σ with H := Hs (cntG ops eff fun j => listed.getD j false) } fun l => decide (l < i)) b := fun b hb => hb
          have hdqn : dq ops (stL ops ops.length vals { σ with H := Hs (cntG ops eff fun j => listed.getD j false) } fun l => decide (l < i)).H = dq ops (Hs (rankG eff i)) := by
            show dq ops (Hs _) = _
            rw [hdq _ hcl, hdq _ hri]
          refine ⟨by rw [hdqn]; exact hdm, ?_⟩
          rcases hK2 with ⟨hw, hA, hat, v, hv, hop⟩ | ⟨hw, hv⟩
          · refine .inl ⟨hwant _ hw, v, by rw [hdqn]; exact hv, fun σ' hagr ro a w e hst => hop σ' ?_ (fun x hx => (hagr.2 x hx).trans (hev x)) ro a w e hst⟩
            have hAt := atG hg hK hchk hlt ho he hA hat hcl f1 f2
            rcases hagr.1 with h3 | h3
            · exact .inl h3
            · rcases hAt with h4 | h4 | h4 | h4
              · exact .inl h4
              · exact .inr (.inl (h4.trans h3))
              · refine .inr (.inr (.inl ?_))
                unfold LoadOk at h4 ⊢
                unfold LoadAt at hat
                cases hop2 : o.op with
                | load t x =>
                  rw [hop2] at h4 hat
                  simp only at h4 hat ⊢
                  cases hv2 : asRp G ((TSG ops eff vals Hs σ i).ev x) with
                  | ptr y off =>
                    rw [hv2] at h4 hat
                    simp only at h4 hat ⊢
                    have hy : ∃ b, (TSG ops eff vals Hs σ i).H[y]? = some b := ⟨_, List.getElem?_eq_getElem hat⟩
                    obtain ⟨b, hb⟩ := hy
                    rw [hb] at h4 ⊢
                    exact h3.get h4
                  | rp cs => trivial
                  | _ => rw [hv2] at hat; exact hat.elim
                | _ => rw [hop2] at h4; exact h4.elim
              · exact .inr (.inr (.inr h4))
          · exact .inr ⟨hwant _ hw, hv⟩
        refine qc_run ho hq hag h (by have := hdem _ hcl fun j => listed.getD j false; exact this) fun a' w' e' hst' hx' => ?_
        rw [stL_put hok vals _ _ hlt ho] at hst'
        refine next a' w' e' ?_ ?_
        · rw [hcnt1, ← hLeq]; exact hst'
        · rw [hcnt1]; exact hx.trans hx'

theorem wpc_drawG {id : Nat} {ops : Array Oper} {Φ : Exit → St → Prop} {σ : St} (eff fx : List Nat) (pr : List (Nat × Nat)) (hm : P.follows .mixedOrders = true) (hok : drawOk ops.toList ops.toList.length = true) (hg : okG ops.toList eff fx pr = true)
    (h : evG P G ops.toList eff fx ops.toList 0 { σ with tmps := σ.tmps.map (V.demote (dq ops.toList σ.H)) } [] [] fun σ' TL AL => chkG pr TL AL = true ∧ Φ .normal σ') : WPc P G (.region id ops true) Φ σ := by
  intro a w e hst
  have hok := drawOk_spec hok
  have hg := okG_spec hg
  refine wpIn_region_any hm ?_
  let σ1 : St := { σ with tmps := σ.tmps.map (V.demote (dq ops.toList σ.H)) }
  obtain ⟨hst1, hx1⟩ := hst.drew
  have hst2 : RSt G σ1 a w.drew e := ⟨hst1.heap, ⟨by
    show (σ.tmps.map _).length = _
    simpa using hst1.tmps.1, fun i v u hv hu => by
    simp only [σ1, List.getElem?_map] at hv
    obtain ⟨v', hv', rfl⟩ := Option.map_eq_some_iff.1 hv
    exact (hst1.tmps.2 i v' u hv' hu).demote _⟩, hst1.defs, hst1.defsN, hst1.cur⟩
  have h0 : ∀ vals, TSG ops.toList eff vals (fun _ => σ.H) σ1 0 = σ1 := fun vals => by
    refine st_ext rfl rfl rfl fun t => ?_
    unfold TSG
    rw [stL_get]
    show Option.map _ σ1.tmps[t]? = _
    cases σ1.tmps[t]? with
    | none => rfl
    | some v => cases own ops.toList ops.toList.length t <;> simp
  obtain ⟨vals, Hs, TL, AL, _, hHs, _, hK, hchk, hk⟩ := evG_vals hok σ1 _ ops.toList.length 0 (fun _ => .bad) (fun _ => σ.H) [] [] (by omega) (by rw [h0]; exact h)
  have hr0 : rankG eff 0 = 0 := rfl
  have hH0 : Hs 0 = σ1.H := hHs 0 (by rw [hr0]; exact Nat.le_refl _)
  have hz : (fun j => (Array.replicate ops.size false).getD j false) = fun _ => false := by
    funext j
    by_cases hj : j < ops.size <;> simp [hj]
  have hc0 : cntG ops.toList eff (fun j => (Array.replicate ops.size false).getD j false) = 0 := by
    rw [hz]
    unfold cntG
    rw [List.countP_eq_zero]
    intro j _
    simp
  have := draw_g (ro := σ.cur.map e.ρ) hok hg (σ := σ1) (vals := vals) (Hs := Hs) (TL := TL) (AL := AL) (Q := fun x a' w' => ∃ σ' e', Φ x σ' ∧ σ'.cur = σ.cur ∧ RSt G σ' a' w' e' ∧ Ext σ.H w e σ'.H w' e') (w0 := w) (e0 := e)
    (by simp only [σ1, List.map_map]; exact List.map_congr_left fun v _ => demote_demote _ v) hH0 (fun j o ho => (hK j o (Nat.zero_le _) ho).1) hchk
    (fun a' w' e' h1 h2 => ⟨_, e', hk, rfl, h1, h2⟩)
    ops.size (Array.replicate ops.size false) a w.drew e (by simp) (fun i o hi hL => by
      exfalso
      have h5 : (Array.replicate ops.size false).getD i false = false := congrFun hz i
      have h6 : (Array.replicate ops.size false).getD i false = true := hL
      rw [h5] at h6; cases h6) (by simp) (by
      rw [hc0, hz]
      have : (stL ops.toList ops.toList.length vals { σ1 with H := Hs 0 } fun _ => false) = σ1 := by
        refine st_ext hH0 rfl rfl fun t => ?_
        rw [stL_get]
        show Option.map _ σ1.tmps[t]? = _
        cases σ1.tmps[t]? with
        | none => rfl
        | some v => cases own ops.toList ops.toList.length t <;> simp
      rw [this]
      exact hst2) (by rw [hc0, hH0]; exact hx1)
  simpa using this


/-! ### the same, for reduction -/
def evQG2 (P : Program) (G : Nat → Option (List V)) (fx : Bool) (o : Oper) (s : S2) (K : V → Prop) : Prop :=
  match fx with
  | false => evQ2 P G o s K
  | true => match o.op with
    | .call { callee := .value f, args, .. } => match s.ev f with
      | .fn (.func g) a b => ∃ u, (∀ H, Call2 P G g ((a ++ (args.toList.map s.ev) ++ b).map V.strip) H (fun r H' => H' = H ∧ r = u)) ∧ K u
      | _ => False
    | _ => False

theorem evQG2_imp {fx : Bool} {o : Oper} {s : S2} {K : V → Prop} (hw : s.Wf) (h : evQG2 P G fx o s K) : evQG P G fx o s.st K := by
  have hev : ∀ x, s.st.ev x = s.ev x := fun x => S2.ev_eq hw x
  have hmap : ∀ l : List Operand, l.map s.st.ev = l.map s.ev := fun l => List.map_congr_left fun x _ => hev x
  cases fx with
  | false => exact evQ2_imp hw h
  | true =>
    simp only [evQG2] at h
    simp only [evQG]
    split at h
    · rename_i f args ts ho
      try simp only [ho]
      rw [hev]
      split at h
      · rename_i g a b hf
        obtain ⟨u, h1, h2⟩ := h
        try simp only [hf]
        refine ⟨(h1 []).1, u, ?_, h2⟩
        intro H
        rw [hmap]
        exact (h1 H).2
      · exact h.elim
    · exact h.elim

def evEffN2 (P : Program) (G : Nat → Option (List V)) (o : Oper) (s : S2) (K : V → Heap → Nat → Prop) : Prop :=
  match o.op with
  | .store t a x => match s.ev a with
    | .ptr id off => evStore2 P t s.H (s.ev x) (fun H => K (.tup []) H id) (.ptr id off)
    | _ => False
  | .alloc t => match zeroOf P t with
    | some cs => grd (cs.all fun v => !v.isCls) (K (.ptr s.H.length 0) (s.H ++ [some (.cells t cs)]) s.H.length)
    | none => False
  | .box t x => match (s.ev x).cellsF with
    | some cs => grd (cs.all fun v => !v.isCls) (K (.ptr s.H.length 0) (s.H ++ [some (.cells t cs)]) s.H.length)
    | none => False
  | .makeSlice t n c => match slOf P t, s.ev n, s.ev c with
    | some (e, sz, bytes), .im (.int _ a), .im (.int _ b) => match zeroOf P e with
      | some z => grd ((z.all fun v => !v.isCls) && Nat.beq z.length sz && Nat.ble 1 sz) ((b = a ∧ 0 ≤ a ∧ a ≤ maxBytes ∧ bytes * a ≤ maxBytes) ∧ K (.arr s.H.length sz a.toNat) (s.H ++ [some (.cells e (List.replicate a.toNat z).flatten)]) s.H.length)
      | none => False
    | _, _, _ => False
  | .call { callee := .value f, args, .. } => match s.ev f with
    | .fn (.func g) a b => ∃ v H', Call2 P G g ((a ++ (args.toList.map s.ev) ++ b).map V.strip) s.H (fun r H'' => H'' = H' ∧ r = v) ∧ K v H' 4294967295
    | _ => False
  | _ => False

def evEffC2 (P : Program) (G : Nat → Option (List V)) (o : Oper) (s : S2) (K : V → Heap → Nat → Prop) : Prop :=
  match o.op with
  | .call { callee := .value f, args, .. } => match s.ev f with
    | .fn (.func g) a b => ∃ v H' id, Call2 P G g ((a ++ (args.toList.map s.ev) ++ b).map V.strip) s.H (fun r H'' => H'' = H' ∧ r = v) ∧ (∀ i, i ≠ id → H'[i]? = s.H[i]?) ∧ s.H.length ≤ H'.length ∧ K v H' id
    | _ => False
  | _ => False

def evEff2 (P : Program) (G : Nat → Option (List V)) (fx : Bool) (o : Oper) (s : S2) (K : V → Heap → Nat → Prop) : Prop :=
  match fx with
  | true => evEffC2 P G o s K
  | false => evEffN2 P G o s K

theorem evStore_imp {t : TypeId} {σ : St} {v : V} {k k' : St → Prop} {x : V} (hm : ∀ τ, k τ → k' τ) (h : evStore P t σ v k x) : evStore P t σ v k' x := by
  cases x with
  | ptr id off =>
    obtain ⟨b, hk, hall⟩ := evStore_ptr h
    exact hall σ k' rfl (hm _ hk)
  | _ => exact h.elim

theorem evEffN2_imp {o : Oper} {s : S2} {K K' : V → Heap → Nat → Prop} (hw : s.Wf) (hm : ∀ v H id, (isLay o.op = true → PreH s.H H) → K v H id → K' v H id) (h : evEffN2 P G o s K) : evEffN P G o s.st K' := by
  have hev : ∀ x, s.st.ev x = s.ev x := fun x => S2.ev_eq hw x
  have hmap : ∀ l : List Operand, l.map s.st.ev = l.map s.ev := fun l => List.map_congr_left fun x _ => hev x
  unfold evEffN2 at h
  unfold evEffN
  split at h
  · rename_i t a x ho
    try simp only [ho]
    rw [hev, hev]
    split at h
    · rename_i id off hv
      try simp only [hv]
      have h2 : evStore P t s.st (s.ev x) (fun τ => K (.tup []) τ.H id) (.ptr id off) := evStore2_imp (σ := s.st) (k := fun τ => K (.tup []) τ.H id) h
      exact evStore_imp (fun τ hk => hm _ _ _ (fun hl => by rw [ho] at hl; cases hl) hk) h2
    · exact h.elim
  · rename_i t ho
    try simp only [ho]
    split at h
    · rename_i cs hz
      try simp only [hz]
      rw [grd_iff] at h
      exact ⟨h.1, hm _ _ _ (fun _ => pre_lay h.1) h.2⟩
    · exact h.elim
  · rename_i t x ho
    try simp only [ho]
    rw [hev]
    split at h
    · rename_i cs hz
      try simp only [hz]
      rw [grd_iff] at h
      exact ⟨h.1, hm _ _ _ (fun _ => pre_lay h.1) h.2⟩
    · exact h.elim
  · rename_i t n c ho
    try simp only [ho]
    rw [hev, hev]
    split at h
    · rename_i el sz bytes k1 a k2 b hsl hn hc
      try simp only [hsl, hn, hc]
      split at h
      · rename_i z hz
        try simp only [hz]
        rw [grd_iff, Bool.and_eq_true, Bool.and_eq_true, Nat.ble_eq, Nat.beq_eq] at h
        exact ⟨h.1.1.1, ⟨h.1.1.2, h.1.2⟩, h.2.1, hm _ _ _ (fun _ => pre_lay (all_flat h.1.1.1 _)) h.2.2⟩
      · exact h.elim
    · exact h.elim
  · rename_i f args ts ho
    try simp only [ho]
    rw [hev]
    split at h
    · rename_i g a b hf
      obtain ⟨v, H', hc, hk⟩ := h
      try simp only [hf]
      refine ⟨hc.1, v, H', ?_, hm _ _ _ (fun hl => by rw [ho] at hl; cases hl) hk⟩
      rw [hmap]
      exact hc.2
    · exact h.elim
  · exact h.elim

theorem evEffC2_imp {o : Oper} {s : S2} {K K' : V → Heap → Nat → Prop} (hw : s.Wf) (hm : ∀ v H id, (isLay o.op = true → PreH s.H H) → K v H id → K' v H id) (h : evEffC2 P G o s K) : evEffC P G o s.st K' := by
  have hev : ∀ x, s.st.ev x = s.ev x := fun x => S2.ev_eq hw x
  have hmap : ∀ l : List Operand, l.map s.st.ev = l.map s.ev := fun l => List.map_congr_left fun x _ => hev x
  unfold evEffC2 at h
  unfold evEffC
  split at h
  · rename_i f args ts ho
    try simp only [ho]
    rw [hev]
    split at h
    · rename_i g a b hf
      obtain ⟨v, H', id, hc, h1, h2, hk⟩ := h
      try simp only [hf]
      refine ⟨hc.1, v, H', id, ?_, h1, h2, hm _ _ _ (fun hl => by rw [ho] at hl; cases hl) hk⟩
      rw [hmap]
      exact hc.2
    · exact h.elim
  · exact h.elim

theorem evEff2_imp {fx : Bool} {o : Oper} {s : S2} {K K' : V → Heap → Nat → Prop} (hw : s.Wf) (hm : ∀ v H id, (isLay o.op = true → PreH s.H H) → K v H id → K' v H id) (h : evEff2 P G fx o s K) : evEff P G fx o s.st K' := by
  cases fx with
  | true => exact evEffC2_imp hw hm h
  | false => exact evEffN2_imp hw hm h

def noClsB : Option Blk → Bool
  | some (.cells _ vs) => vs.all fun v => !v.isCls
  | _ => true
theorem noCls_heap {H : Heap} (h : (H.all noClsB) = true) : heapCls H = fun _ => false := by
  funext k
  unfold heapCls
  rw [List.any_eq_false]
  intro b hb
  have h1 := List.all_eq_true.1 h b hb
  cases b with
  | none => simp
  | some b => cases b with
    | cells t vs =>
      have := noCls_any h1 k
      simpa [Blk.hasCls] using this
    | _ => simp [Blk.hasCls]

/-- The classes that nobody lets know of stay the same. -/
def dqOk (all : List Oper) (H H' : Heap) : Bool := match all.any isVCall with
  | false => true
  | true => H.all noClsB && H'.all noClsB
theorem dqOk_spec {all : List Oper} {H H' : Heap} (h : dqOk all H H' = true) : dq all H' = dq all H := by
  unfold dqOk at h
  unfold dq
  split at h
  · rename_i hv; rw [hv]
  · rename_i hv
    rw [hv]
    simp only [Bool.and_eq_true] at h
    rw [noCls_heap h.1, noCls_heap h.2]

/-- An operation that only lays a block lets the classes be as they are. -/
def dqOkL (lay : Bool) (all : List Oper) (H H' : Heap) : Bool := match lay with
  | true => true
  | false => dqOk all H H'
theorem dq_pre {all : List Oper} {H H' : Heap} (h : PreH H H') : dq all H' = dq all H := by
  obtain ⟨X, hX, rfl⟩ := h
  unfold dq
  split
  · funext k
    have := hX k
    unfold heapCls at *
    rw [List.any_append, this, Bool.or_false]
  · rfl

def addr2 (G : Nat → Option (List V)) (o : Oper) (s : S2) : Option Nat :=
  match o.op with
  | .load _ a => match asRp G (s.ev a) with
    | .ptr i _ => some i
    | _ => none
  | _ => none
theorem addr2_eq {o : Oper} {s : S2} (hw : s.Wf) : addrOf G o s.st = addr2 G o s := by
  unfold addrOf addr2
  split
  · rename_i t a ho
    try simp only [ho]
    rw [S2.ev_eq hw]
  · rename_i hne
    first
      | rfl
      | (split
         · rename_i t a ho; exact absurd ho (hne t a)
         · rfl)

noncomputable def evG2 (P : Program) (G : Nat → Option (List V)) (all : List Oper) (eff fx : List Nat) (l : List Oper) : Nat → S2 → List (Nat × Nat) → List (Nat × Option Nat) → (S2 → List (Nat × Nat) → List (Nat × Option Nat) → Prop) → Prop :=
  List.rec (motive := fun _ => Nat → S2 → List (Nat × Nat) → List (Nat × Option Nat) → (S2 → List (Nat × Nat) → List (Nat × Option Nat) → Prop) → Prop) (fun _ s TL AL k => k s TL AL) (fun o _ ih i s TL AL k =>
    match memN i eff with
    | true => match o.guard with
      | none => evEff2 P G (memN i fx) o s fun v H' id => grd (dqOkL (isLay o.op) all s.H H') (demK all s.H v fun v => put2 (s.setH H') o.dst v fun s' => ih (i + 1) s' ((i, id) :: TL) AL k)
      | some _ => False
    | false => match o.guard with
      | none => evQG2 P G (memN i fx) o s fun v => demK all s.H v fun v => put2 s o.dst v fun s' => ih (i + 1) s' TL ((i, addr2 G o s) :: AL) k
      | some (j, want) => match (all[j]?).bind (·.dst) with
        | none => False
        | some d => match look s.upd s.base d with
          | .im (.bool b) => match want with
            | true => br b (evQG2 P G (memN i fx) o (shadow s d true) fun v => demK all s.H v fun v => put2 (shadow s d true) o.dst v fun s' => ih (i + 1) s' TL ((i, addr2 G o (shadow s d true)) :: AL) k) (put2 (shadow s d false) o.dst (.tup []) fun s' => ih (i + 1) s' TL AL k)
            | false => br b (put2 (shadow s d true) o.dst (.tup []) fun s' => ih (i + 1) s' TL AL k) (evQG2 P G (memN i fx) o (shadow s d false) fun v => demK all s.H v fun v => put2 (shadow s d false) o.dst v fun s' => ih (i + 1) s' TL ((i, addr2 G o (shadow s d false)) :: AL) k)
          | .tup [] => put2 s o.dst (.tup []) fun s' => ih (i + 1) s' TL AL k
          | _ => False) l

theorem evG2_cons (all : List Oper) (eff fx : List Nat) (o : Oper) (rest : List Oper) (i : Nat) (s : S2) (TL : List (Nat × Nat)) (AL : List (Nat × Option Nat)) (k : S2 → List (Nat × Nat) → List (Nat × Option Nat) → Prop) : evG2 P G all eff fx (o :: rest) i s TL AL k =
    match memN i eff with
    | true => match o.guard with
      | none => evEff2 P G (memN i fx) o s fun v H' id => grd (dqOkL (isLay o.op) all s.H H') (demK all s.H v fun v => put2 (s.setH H') o.dst v fun s' => evG2 P G all eff fx rest (i + 1) s' ((i, id) :: TL) AL k)
      | some _ => False
    | false => match o.guard with
      | none => evQG2 P G (memN i fx) o s fun v => demK all s.H v fun v => put2 s o.dst v fun s' => evG2 P G all eff fx rest (i + 1) s' TL ((i, addr2 G o s) :: AL) k
      | some (j, want) => match (all[j]?).bind (·.dst) with
        | none => False
        | some d => match look s.upd s.base d with
          | .im (.bool b) => match want with
            | true => br b (evQG2 P G (memN i fx) o (shadow s d true) fun v => demK all s.H v fun v => put2 (shadow s d true) o.dst v fun s' => evG2 P G all eff fx rest (i + 1) s' TL ((i, addr2 G o (shadow s d true)) :: AL) k) (put2 (shadow s d false) o.dst (.tup []) fun s' => evG2 P G all eff fx rest (i + 1) s' TL AL k)
            | false => br b (put2 (shadow s d true) o.dst (.tup []) fun s' => evG2 P G all eff fx rest (i + 1) s' TL AL k) (evQG2 P G (memN i fx) o (shadow s d false) fun v => demK all s.H v fun v => put2 (shadow s d false) o.dst v fun s' => evG2 P G all eff fx rest (i + 1) s' TL ((i, addr2 G o (shadow s d false)) :: AL) k)
          | .tup [] => put2 s o.dst (.tup []) fun s' => evG2 P G all eff fx rest (i + 1) s' TL AL k
          | _ => False := rfl

theorem evQG_mono {fx : Bool} {o : Oper} {σ : St} {K K' : V → Prop} (hm : ∀ v, K v → K' v) (h : evQG P G fx o σ K) : evQG P G fx o σ K' := by
  cases fx with
  | false => exact evQ_mono hm h
  | true =>
    simp only [evQG] at *
    split at h
    · split at h
      · obtain ⟨h1, u, h2, h3⟩ := h
        exact ⟨h1, u, h2, hm _ h3⟩
      · exact h.elim
    · exact h.elim

theorem evG2_imp {all : List Oper} {eff fx : List Nat} {k : S2 → List (Nat × Nat) → List (Nat × Option Nat) → Prop} {K : St → List (Nat × Nat) → List (Nat × Option Nat) → Prop} (n : Nat) (hK : ∀ (s' : S2) TL AL, s'.Wf → s'.n = n → k s' TL AL → K s'.st TL AL) :
    ∀ (rest : List Oper) (i : Nat) (s : S2) (TL : List (Nat × Nat)) (AL : List (Nat × Option Nat)), s.Wf → s.n = n → evG2 P G all eff fx rest i s TL AL k → evG P G all eff fx rest i s.st TL AL K := by
  intro rest
  induction rest with
  | nil => intro i s TL AL hw hn h; exact hK s TL AL hw hn h
  | cons o rest ih =>
    intro i s TL AL hw hn h
    rw [evG2_cons] at h
    simp only [evG]
    cases he : memN i eff with
    | true =>
      rw [he] at h
      simp only at h ⊢
      cases hg : o.guard with
      | some g => rw [hg] at h; exact h.elim
      | none =>
        rw [hg] at h
        refine ⟨rfl, evEff2_imp hw (fun v H' id hpre hh => ?_) h⟩
        rw [grd_iff] at hh
        obtain ⟨h1, h2⟩ := hh
        rw [demK_eq] at h2
        have hwX : (s.setH H').Wf := by rw [S2.setH_eq]; exact ⟨hw.n, hw.d⟩
        obtain ⟨s'', e1, e2, e3, e4⟩ := put2_imp hwX h2
        have h1' : dq all H' = dq all s.H := by
          cases hl : isLay o.op with
          | true => exact dq_pre (hpre hl)
          | false => rw [hl] at h1; exact dqOk_spec h1
        refine ⟨h1', ?_⟩
        have := ih (i + 1) s'' _ _ e2 (e3.trans (by rw [S2.setH_eq]; exact hn)) e4
        have hst : ({ s.st with H := H' } : St) = (s.setH H').st := by rw [S2.setH_eq]; rfl
        show evG P G all eff fx rest (i + 1) (({ s.st with H := H' } : St).put o.dst (V.demote (dq all s.H) v)) _ _ K
        rw [hst, ← e1]
        exact this
    | false =>
      rw [he] at h
      simp only at h ⊢
      have run : ∀ (s : S2) (H : Heap), H = s.H → s.Wf → s.n = n → evQG2 P G (memN i fx) o s (fun v => demK all H v fun v => put2 s o.dst v fun s' => evG2 P G all eff fx rest (i + 1) s' TL ((i, addr2 G o s) :: AL) k) →
          evQG P G (memN i fx) o s.st (fun v => evG P G all eff fx rest (i + 1) (s.st.put o.dst (V.demote (dq all s.st.H) v)) TL ((i, addrOf G o s.st) :: AL) K) := by
        intro s H hH hw hn h
        subst hH
        refine evQG_mono (fun v hv => ?_) (evQG2_imp hw h)
        rw [demK_eq] at hv
        obtain ⟨s'', h1, h2, h3, h4⟩ := put2_imp hw hv
        have := ih (i + 1) s'' _ _ h2 (h3.trans hn) h4
        rw [h1] at this
        rw [addr2_eq hw]
        exact this
      have skip : ∀ s : S2, s.Wf → s.n = n → put2 s o.dst (.tup []) (fun s' => evG2 P G all eff fx rest (i + 1) s' TL AL k) → evG P G all eff fx rest (i + 1) (s.st.put o.dst (.tup [])) TL AL K := by
        intro s hw hn h
        obtain ⟨s'', h1, h2, h3, h4⟩ := put2_imp hw h
        rw [← h1]
        exact ih (i + 1) s'' _ _ h2 (h3.trans hn) h4
      cases hg : o.guard with
      | none =>
        rw [hg] at h
        exact run s s.H rfl hw hn h
      | some g =>
        obtain ⟨j, want⟩ := g
        rw [hg] at h
        simp only at h ⊢
        split at h
        · exact h.elim
        · rename_i d hd
          split at h
          · rename_i b hl
            rw [yieldedV_look hw hd (by simp) hl]
            simp only
            have hH : ∀ b, s.H = (shadow s d b).H := fun b => by rw [shadow_eq]
            have hnn : ∀ b, (shadow s d b).n = n := fun b => by rw [shadow_eq]; exact hn
            cases want with
            | true =>
              simp only [br_iff] at h
              refine ⟨fun hb => ?_, fun hb => ?_⟩
              · subst hb
                obtain ⟨h1, h2⟩ := shadow_st hw hl
                have := run _ _ (hH true) h2 (hnn _) (h.1 rfl)
                rwa [h1] at this
              · have hb' : b = false := by simpa using hb
                subst hb'
                obtain ⟨h1, h2⟩ := shadow_st hw hl
                have := skip _ h2 (hnn _) (h.2 rfl)
                rwa [h1] at this
            | false =>
              simp only [br_iff] at h
              refine ⟨fun hb => ?_, fun hb => ?_⟩
              · subst hb
                obtain ⟨h1, h2⟩ := shadow_st hw hl
                have := run _ _ (hH false) h2 (hnn _) (h.2 rfl)
                rwa [h1] at this
              · have hb' : b = true := by simpa using hb
                subst hb'
                obtain ⟨h1, h2⟩ := shadow_st hw hl
                have := skip _ h2 (hnn _) (h.1 rfl)
                rwa [h1] at this
          · rename_i hl
            rw [yieldedV_look hw hd (by simp) hl]
            exact skip s hw hn h
          · exact h.elim

/-- A region that draws its order: eff: the operations that change blocks; fx: calls that look at none; pr: loads, and changes that may come ahead of them or behind. -/
theorem wpc_drawG2 {id : Nat} {ops : Array Oper} {Φ : Exit → S2 → Prop} {s : S2} (eff fx : List Nat) (pr : List (Nat × Nat)) (hm : P.follows .mixedOrders = true) (hok : drawOk ops.toList ops.toList.length = true)
    (hg : okG ops.toList eff fx pr = true) (hw : s.Wf)
    (h : evG2 P G ops.toList eff fx ops.toList 0 (s.dem (dq ops.toList s.H)) [] [] fun s' TL AL => grd (chkG pr TL AL) (Φ .normal s')) : WPc P G (.region id ops true) (toΦ s.n Φ) s.st := by
  refine wpc_drawG eff fx pr hm hok hg ?_
  have hd := S2.dem_st (s := s) (dq ops.toList s.H)
  have hn : (s.dem (dq ops.toList s.H)).n = s.n := by unfold S2.dem; split <;> rfl
  have := evG2_imp (K := fun σ' TL AL => chkG pr TL AL = true ∧ toΦ s.n Φ .normal σ') s.n (fun s' TL AL hw' hn' h' => by
    rw [grd_iff] at h'
    exact ⟨h'.1, s', rfl, hw', hn', h'.2⟩) _ _ _ _ _ (S2.dem_wf hw _) hn h
  rw [hd] at this
  exact this

end Go.Abs

/-! Range2 -/
/- Ranges over functions, the iterator walked in place. -/
namespace Go.Abs
open Go.RowKit

variable {P : Program} {G : Nat → Option (List V)}

def isBusy : LoopState → Bool
  | .busy => true
  | _ => false

/-- Behind a range over a function: the pending jump. -/
def rangeΦ2 (n : Nat) (T : List V) (id : Nat) (ds : List Nat) (Φ : Exit → S2 → Prop) (H2 : Heap) : Prop :=
  match H2[id]? with
  | some (some (.loop st pend _ _ _ _ _)) => grd (!isBusy st) (match pend with
    | none => Φ .normal (headS n T (H2.set id none) ds none)
    | some .ret => Φ .ret (headS n T (H2.set id none) ds none)
    | some (.exit i) => Φ (.exit i) (headS n T (H2.set id none) ds none)
    | _ => False)
  | _ => False

theorem wpc_rangeIn2 {f : Operand} {ps : Array Tmp} {as bd : Code} {Φ : Exit → S2 → Prop} {n : Nat} {T : List V} {H0 : Heap} {defs : List Nat} {g : FuncId} {first caps : List V}
    (hn : n ≤ T.length) (hT : T.map V.strip = T) (hf : (headS n T H0 defs none).ev f = .fn (.func g) first caps)
    (hk : Call2 P G g ((first ++ [V.yld (H0.length + 1)] ++ caps).map V.strip) (H0 ++ [some .defd, some (.loop .ready none T ps as bd H0.length)]) fun _ H2 => rangeΦ2 n T (H0.length + 1) (H0.length :: defs) Φ H2) :
    WPc P G (.rangeFunc f ps as bd) (toΦ n Φ) (headS n T H0 defs none).st := by
  obtain ⟨⟨fn, hfn1, hfn2, hfn3⟩, hst⟩ := hk
  have hwf : ∀ H ds c, (headS n T H ds c).Wf := fun H ds c => ⟨hn, fun x hx => by cases hx⟩
  have hTs : (headS n T H0 defs none).st.tmps.map V.strip = T := hT
  refine wpc_rangeFunc rfl ((S2.ev_eq (hwf _ _ _) f).trans hf) hfn1 hfn2 hfn3 ?_
  have hH : (headS n T H0 defs none).st.H ++ [some Blk.defd] ++ [some (Blk.loop .ready none ((headS n T H0 defs none).st.tmps.map V.strip) ps as bd (headS n T H0 defs none).st.H.length)] =
      H0 ++ [some .defd, some (.loop .ready none T ps as bd H0.length)] := by
    rw [hTs]
    show H0 ++ _ ++ _ = _
    simp
    rfl
  rw [hH]
  refine hst.mono fun r H2 h => ?_
  unfold rangeΦ2 at h
  unfold rangeΦ
  show (match H2[H0.length + 1]? with
  | some (some (.loop st pend _ _ _ _ _)) => st ≠ .busy ∧ match pend with
    | none => toΦ n Φ .normal { (headS n T H0 defs none).st with tmps := (headS n T H0 defs none).st.tmps.map V.strip, H := H2.set (H0.length + 1) none, defs := H0.length :: defs }
    | some c => evCode P G c (toΦ n Φ) { (headS n T H0 defs none).st with tmps := (headS n T H0 defs none).st.tmps.map V.strip, H := H2.set (H0.length + 1) none, defs := H0.length :: defs }
  | _ => False)
  rw [hTs]
  split at h
  · rename_i st pend t1 t2 t3 t4 t5 hg
    try rw [hg]
    try simp only
    rw [grd_iff] at h
    obtain ⟨hb, h⟩ := h
    refine ⟨(fun he => by subst he; cases hb), ?_⟩
    split at h
    · exact ⟨_, rfl, hwf _ _ _, rfl, h⟩
    · exact ⟨_, rfl, hwf _ _ _, rfl, h⟩
    · exact ⟨_, rfl, hwf _ _ _, rfl, h⟩
    · exact h.elim
  · exact h.elim

/-- What a round's end owes. -/
def roundΦ2 (id : Nat) (Ψ : V → Heap → Prop) (x : Exit) (s : S2) : Prop :=
  match s.H[id]? with
  | some (some (.loop _ _ tmps ps as bd d)) => match x with
    | .normal => Ψ (.bool true) (s.H.set id (some (.loop .ready none tmps ps as bd d)))
    | .ret => Ψ (.bool false) (s.H.set id (some (.loop .done (some .ret) tmps ps as bd d)))
    | .exit i => Ψ (.bool false) (s.H.set id (some (.loop .done (some (.exit i)) tmps ps as bd d)))
    | _ => False
  | _ => False

theorem setParams_len : ∀ (ps : List Tmp) (x T : List V), (setParams ps x T).length = T.length
  | [], x, T => by cases x <;> rfl
  | p :: ps, [], T => rfl
  | p :: ps, a :: x, T => by simp [setParams, setParams_len ps x]

/-- A round. -/
theorem yield2 {id : Nat} {pend : Option Code} {T : List V} {ps : Array Tmp} {as bd : Code} {d : Nat} {args : List V} {H : Heap} {Ψ : V → Heap → Prop} {n : Nat}
    (hid : H[id]? = some (some (.loop .ready pend T ps as bd d))) (hT : T.map V.strip = T) (hs : args.length = ps.size) (hn : n ≤ T.length)
    (hk : evCode2 P G as (fun x s1 => x = .normal ∧ s1.H[id]? = some (some (.loop .ready pend T ps as bd d)) ∧ evCode2 P G bd (roundΦ2 id Ψ) (s1.setH (s1.H.set id (some (.loop .busy pend T ps as bd d)))))
      (headS n (setParams ps.toList args T) H [] (some id))) : StYield P G id args H Ψ := by
  refine stYield hid hs ?_
  rw [hT]
  have hwr : (headS n (setParams ps.toList args T) H [] (some id)).Wf := ⟨by show n ≤ (setParams ps.toList args T).length; rw [setParams_len]; exact hn, fun x hx => by cases hx⟩
  refine (evCode2_sound as n _ _ hwr rfl hk).mono ?_
  rintro ex σ1 ⟨s1, rfl, hw1, hn1, rfl, h2, h3⟩
  refine ⟨rfl, h2, ?_⟩
  have hset : ({ s1.st with H := s1.st.H.set id (some (.loop .busy pend T ps as bd d)) } : St) = (s1.setH (s1.H.set id (some (.loop .busy pend T ps as bd d)))).st := by
    rw [S2.setH_eq]; rfl
  rw [hset]
  refine (evCode2_sound bd n _ _ (by rw [S2.setH_eq]; exact ⟨hw1.n, hw1.d⟩) (by rw [S2.setH_eq]; exact hn1) h3).mono ?_
  rintro ex σ2 ⟨s2, rfl, hw2, hn2, h4⟩
  unfold roundΦ2 at h4
  unfold roundΦ
  have hH : s2.st.H = s2.H := rfl
  rw [hH]
  split at h4
  · rename_i a1 a2 a3 a4 a5 a6 a7 hg
    try rw [hg]
    try simp only
    cases ex with
    | normal => exact h4
    | ret => exact h4
    | exit i => exact h4
    | _ => exact h4.elim
  · exact h4.elim

end Go.Abs
