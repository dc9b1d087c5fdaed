/- Regions that draw their order: the walk. -/
import Derived.Test.YteklnflddoekfaaDoorAbsSound12
namespace Go.Abs
open Go.RowKit

variable {P : Program} {G : Nat → Option (List V)}

theorem OpWp.mono {ro : Option Nat} {o : Oper} {σ : St} {a : Act} {w : World} {e : Env} {k k' : V → St → Prop} (h : OpWp P G ro o σ a w e k) (hm : ∀ v τ, k v τ → k' v τ) : OpWp P G ro o σ a w e k' :=
  fun next Q hn => h next Q fun u w' v σ' e' hk => hn u w' v σ' e' (hm _ _ hk)

theorem evQ_ex {o : Oper} {σ : St} {K : V → Prop} (h : evQ P G o σ K) :
    ∃ u, K u ∧ ∀ σ', Agree o σ σ' → ∀ ro a w e, RSt G σ' a w e → OpWp P G ro o σ' a w e fun v τ => (τ = σ' ∨ τ = σ'.afterCall σ'.H) ∧ v = u := by
  unfold evQ at h
  split at h
  · rename_i f args ts ho
    split at h
    · rename_i g a b hf
      obtain ⟨hfn, u, hcall, hK⟩ := h
      refine ⟨u, hK, fun σ' ha ro act w e hst => evOp_sound hst ?_⟩
      have hev : σ'.ev f = .fn (.func g) a b := by rw [ha.2 f (by simp [ho, Op.operands, Call.operands]), hf]
      have hargs : args.toList.map σ'.ev = args.toList.map σ.ev := List.map_congr_left fun x hx => ha.2 x (by simp [ho, Op.operands, Call.operands, Array.mem_toList_iff.1 hx])
      simp only [evOp, ho, hev]
      refine ⟨hfn, ?_⟩
      rw [hargs, ha.1]
      exact hcall.mono fun r H' ⟨h1, h2⟩ => ⟨.inr (by rw [h1]), h2⟩
    · exact h.elim
  · obtain ⟨hq, h⟩ := h
    obtain ⟨u, h1, h2⟩ := evQ_quiet hq K h
    refine ⟨u, h1, fun σ' ha ro a w e hst => (evOp_sound hst (h2 σ' ha (· = u) rfl)).mono fun v τ ⟨h3, h4⟩ => ⟨.inl h3, h4⟩⟩

/-! ### guards -/
def Want (all : List Oper) (o : Oper) (σ : St) (b : Bool) : Prop :=
  match o.guard with
  | none => b = true
  | some (j, want) => (∃ c, yieldedV all σ j = some (.im (.bool c)) ∧ b = (c == want)) ∨ (yieldedV all σ j = some (.tup []) ∧ b = false)

theorem want_run {all : List Oper} {o : Oper} {σ : St} {b : Bool} {a : Act} {w : World} {e : Env} (h : RSt G σ a w e) (hw : Want all o σ b) : Region.wanted o (yielded all.toArray a.tmps) = b := by
  unfold Want at hw
  split at hw
  · rename_i hg
    rw [wanted_none hg, hw]
  · rename_i j want hg
    have hw' : Region.wanted o (yielded all.toArray a.tmps) = (yielded all.toArray a.tmps j == some want) := by simp [Region.wanted, hg]
    have hy : ∀ v, yieldedV all σ j = some v → ∃ u, ((all.toArray[j]?).bind (·.dst)).bind (a.tmps[·]?) = some u ∧ Rep w e v u := by
      intro v hv
      unfold yieldedV at hv
      simp only [List.getElem?_toArray]
      split at hv
      · rename_i d hdst
        rw [hdst]
        have hlt : d < σ.tmps.length := (List.getElem?_eq_some_iff.1 hv).1
        have hlt' : d < a.tmps.size := Nat.lt_of_lt_of_eq hlt (h.tmps.1.trans Array.length_toList)
        exact ⟨a.tmps[d], by simp [hlt'], (h.tmps.2 d v _ hv (by simp [hlt'])).1⟩
      · cases hv
    rw [hw']
    rcases hw with ⟨c, hv, rfl⟩ | ⟨hv, rfl⟩
    · obtain ⟨u, hu, hr⟩ := hy _ hv
      have hub : u = .bool c := by cases hr; rfl
      have : yielded all.toArray a.tmps j = some c := by unfold yielded; rw [hu, hub]
      rw [this]
      rfl
    · obtain ⟨u, hu, hr⟩ := hy _ hv
      have : yielded all.toArray a.tmps j = none := by
        unfold yielded
        rw [hu]
        cases hr
        rfl
      rw [this]
      rfl

/-- One operation that is not the first: its step. -/
theorem evOps_step {ro : Option Nat} {all rest : List Oper} {o : Oper} {i : Nat} {σ : St} {a : Act} {w : World} {e : Env} {k : St → Prop} {Q : Exit → Act → World → Prop} {next : Act → World → Prop} (ho : all[i]? = some o)
    (h : RSt G σ a w e) (hk : evOps P G all (o :: rest) σ k)
    (hn : ∀ σ' a' w' e', evOps P G all rest σ' k → σ'.cur = σ.cur → RSt G σ' a' w' e' → Ext σ.H w e σ'.H w' e' → next a' w') : wpOpIn (FW ro) 0 P all.toArray Q i next a w := by
  unfold wpOpIn
  simp only [List.getElem?_toArray, ho]
  have run : evOp P G o σ (fun v σ' => evOps P G all rest (σ'.put o.dst v) k) → o.wpIn (FW ro) 0 P a w next Q := by
    intro hk
    refine evOp_sound h hk _ _ fun u w' v σ' e' hk hc hst hv hx => ?_
    exact hn (σ'.put o.dst v) _ _ e' hk ((put_cur _ _ _).trans hc) (hst.put o.dst hv) (by rwa [put_H])
  have skip : evOps P G all rest (σ.put o.dst (.tup [])) k → (∀ f, o.about P w a.eval = some f → (FW ro).fn f) ∧ next (a.put o.dst undef) w := by
    intro hk
    refine ⟨fun _ _ => trivial, ?_⟩
    exact hn (σ.put o.dst (.tup [])) _ _ e hk (put_cur _ _ _) (h.put o.dst ⟨.tup [] #[] rfl (fun i v u h => by simp at h), trivial⟩) (by rw [put_H]; exact .refl _ _ _)
  simp only [evOps] at hk
  split at hk
  · rename_i hg
    rw [if_pos (wanted_none hg _)]
    exact run hk
  · rename_i j want hg
    split at hk
    · rename_i b hv
      have := want_run (b := b == want) h (by unfold Want; rw [hg]; exact .inl ⟨b, hv, rfl⟩)
      rw [this]
      by_cases hb : b = want
      · rw [if_pos (by simp [hb])]
        exact run (hk.1 hb)
      · rw [if_neg (by simp [hb])]
        exact skip (hk.2 hb)
    · rename_i hv
      have := want_run (b := false) h (by unfold Want; rw [hg]; exact .inr ⟨hv, rfl⟩)
      rw [this, if_neg (by simp)]
      exact skip hk
    · exact hk.elim

/-! ### quiet operations, in the order of the text -/
def evQs (P : Program) (G : Nat → Option (List V)) (all : List Oper) : List Oper → St → (St → Prop) → Prop
  | [], σ, k => k σ
  | o :: rest, σ, k =>
    match o.guard with
    | none => evQ P G o σ fun v => evQs P G all rest (σ.put o.dst (V.demote (heapCls σ.H) v)) k
    | some (j, want) => match yieldedV all σ j with
      | some (.im (.bool b)) => (b = want → evQ P G o σ fun v => evQs P G all rest (σ.put o.dst (V.demote (heapCls σ.H) v)) k) ∧
          (b ≠ want → evQs P G all rest (σ.put o.dst (.tup [])) k)
      | some (.tup []) => evQs P G all rest (σ.put o.dst (.tup [])) k
      | _ => False

/-- An operation's value, whatever else has been worked out. -/
def QC (P : Program) (G : Nat → Option (List V)) (all : List Oper) (o : Oper) (σ : St) (u : V) : Prop :=
  V.demote (heapCls σ.H) u = u ∧
  ((Want all o σ true ∧ ∃ v, u = V.demote (heapCls σ.H) v ∧ ∀ σ', Agree o σ σ' → ∀ ro a w e, RSt G σ' a w e → OpWp P G ro o σ' a w e fun v' τ => (τ = σ' ∨ τ = σ'.afterCall σ'.H) ∧ v' = v) ∨
  (Want all o σ false ∧ u = .tup []))

theorem demote_demote (p : Nat → Bool) (v : V) : V.demote p (V.demote p v) = V.demote p v := by
  cases v with
  | dat es rows fl => cases fl with
    | cls c => by_cases h : p c = true <;> simp [V.demote, h]
    | _ => rfl
  | _ => rfl

theorem evQs_ex {all rest : List Oper} {o : Oper} {σ : St} {k : St → Prop} (h : evQs P G all (o :: rest) σ k) : ∃ u, QC P G all o σ u ∧ evQs P G all rest (σ.put o.dst u) k := by
  simp only [evQs] at h
  split at h
  · rename_i hg
    obtain ⟨u, h1, h2⟩ := evQ_ex h
    exact ⟨_, ⟨demote_demote _ _, .inl ⟨by unfold Want; rw [hg], u, rfl, h2⟩⟩, h1⟩
  · rename_i j want hg
    split at h
    · rename_i b hv
      by_cases hb : b = want
      · obtain ⟨u, h1, h2⟩ := evQ_ex (h.1 hb)
        exact ⟨_, ⟨demote_demote _ _, .inl ⟨by unfold Want; rw [hg]; exact .inl ⟨b, hv, by simp [hb]⟩, u, rfl, h2⟩⟩, h1⟩
      · exact ⟨_, ⟨rfl, .inr ⟨by unfold Want; rw [hg]; exact .inl ⟨b, hv, by simp [hb]⟩, rfl⟩⟩, h.2 hb⟩
    · rename_i hv
      exact ⟨_, ⟨rfl, .inr ⟨by unfold Want; rw [hg]; exact .inr ⟨hv, rfl⟩, rfl⟩⟩, h⟩
    · exact h.elim

/-- The same in all that the operation looks at. -/
def AgreeL (all : List Oper) (o : Oper) (σ σ' : St) : Prop := σ'.H = σ.H ∧ ∀ t ∈ o.looksAt all.toArray, σ'.tmps[t]? = σ.tmps[t]?

theorem AgreeL.agree {all : List Oper} {o : Oper} {σ σ' : St} (h : AgreeL all o σ σ') : Agree o σ σ' := by
  refine ⟨h.1, fun x hx => ?_⟩
  cases x with
  | tmp t =>
    have := h.2 t (by
      unfold Oper.looksAt
      exact List.mem_append_left _ (List.mem_filterMap.2 ⟨.tmp t, by simpa using hx, rfl⟩))
    simp only [St.ev, List.getD_eq_getElem?_getD, this]
  | _ => rfl

theorem AgreeL.want {all : List Oper} {o : Oper} {σ σ' : St} {b : Bool} (h : AgreeL all o σ σ') (hw : Want all o σ b) : Want all o σ' b := by
  unfold Want at *
  split
  · rename_i hg; rw [hg] at hw; exact hw
  · rename_i j want hg
    rw [hg] at hw
    have : yieldedV all σ' j = yieldedV all σ j := by
      unfold yieldedV
      split
      · rename_i d hd
        exact h.2 d (by
          unfold Oper.looksAt
          refine List.mem_append_right _ ?_
          rw [hg]
          simp [hd])
      · rfl
    rw [this]
    exact hw

theorem qc_run {ro : Option Nat} {all : List Oper} {o : Oper} {i : Nat} {σ σ' : St} {u : V} {a : Act} {w : World} {e : Env} {Q : Exit → Act → World → Prop} {next : Act → World → Prop} (ho : all[i]? = some o)
    (hq : QC P G all o σ u) (ha : AgreeL all o σ σ') (h : RSt G σ' a w e) (hd : σ'.tmps.map (V.demote (heapCls σ'.H)) = σ'.tmps)
    (hn : ∀ a' w' e', RSt G (σ'.put o.dst u) a' w' e' → Ext σ'.H w e σ'.H w' e' → next a' w') : wpOpIn (FW ro) 0 P all.toArray Q i next a w := by
  unfold wpOpIn
  simp only [List.getElem?_toArray, ho]
  rcases hq.2 with ⟨hw, v, hu, hop⟩ | ⟨hw, rfl⟩
  · rw [want_run h (ha.want hw), if_pos rfl]
    refine hop σ' ha.agree ro a w e h _ _ fun x w' v' τ e' hk hc hst hv hx => ?_
    obtain ⟨hτ, rfl⟩ := hk
    have hτ' : τ = σ' := by
      rcases hτ with rfl | rfl
      · rfl
      · unfold St.afterCall
        rw [hd]
    subst hτ'
    refine hn _ _ e' ?_ hx
    rw [hu]
    exact hst.put o.dst (hv.demote _)
  · rw [want_run h (ha.want hw), if_neg (by simp)]
    exact ⟨fun _ _ => trivial, hn _ _ e (h.put o.dst ⟨.tup [] #[] rfl (fun i v u h => by simp at h), trivial⟩) (.refl _ _ _)⟩

end Go.Abs
