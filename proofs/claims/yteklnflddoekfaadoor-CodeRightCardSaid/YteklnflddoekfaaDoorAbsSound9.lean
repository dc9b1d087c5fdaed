/- All operations; regions; code; functions; rounds; ranges over functions; loops. -/
import Derived.Test.YteklnflddoekfaaDoorAbsSoundM
namespace Go.Abs
open Go.RowKit

variable {P : Program} {G : Nat → Option (List V)}

theorem evOp_sound {ro : Option Nat} {o : Oper} {σ : St} {a : Act} {w : World} {e : Env} {k : V → St → Prop} (h : RSt G σ a w e) (hk : evOp P G o σ k) : OpWp P G ro o σ a w e k := by
  have done : (∀ c, o.op ≠ .defer c) → OpDone P G o σ a w e k → OpWp P G ro o σ a w e k := fun h1 h2 => opWp_of_done h1 h2
  cases ho : o.op with
  | move x => exact done (by rw [ho]; simp) (op_move h x (.inl ho) hk)
  | assign x => exact done (by rw [ho]; simp) (op_move h x (.inr ho) hk)
  | alloc t => exact done (by rw [ho]; simp) (op_alloc h t ho hk)
  | box t x => exact done (by rw [ho]; simp) (op_box h t x ho hk)
  | build t parts => exact done (by rw [ho]; simp) (op_build h t parts ho hk)
  | buildSlice t len parts => exact done (by rw [ho]; simp) (op_buildSlice h t len parts ho hk)
  | load t x => exact done (by rw [ho]; simp) (op_load h t x ho hk)
  | store t x y => exact done (by rw [ho]; simp) (op_store h t x y ho hk)
  | nilCheck x => exact done (by rw [ho]; simp) (op_nilCheck h x ho hk)
  | binOp op t x y t' => exact done (by rw [ho]; simp) (op_binOp h op t t' x y ho hk)
  | unOp op t x => exact done (by rw [ho]; simp) (op_unOp h op t x ho hk)
  | convert src dst x => exact done (by rw [ho]; simp) (op_convert h src dst x ho hk)
  | makeFunc fn x y => exact done (by rw [ho]; simp) (op_makeFunc h fn x y ho hk)
  | fieldAddr t x f => exact done (by rw [ho]; simp) (op_fieldAddr h t x f ho hk)
  | field t x f => exact done (by rw [ho]; simp) (op_field h t x f ho hk)
  | index t x i => exact done (by rw [ho]; simp) (op_index h t x i ho hk)
  | indexAddr t x i => exact done (by rw [ho]; simp) (op_indexAddr h t x i ho hk)
  | pick c x y => exact done (by rw [ho]; simp) (op_pick h c x y ho hk)
  | extract x i => exact done (by rw [ho]; simp) (op_extract h x i ho hk)
  | call c =>
    obtain ⟨callee, args, ts⟩ := c
    cases callee with
    | builtin b => exact done (by rw [ho]; simp) (op_builtin h b args ts ho hk)
    | value f => exact op_call h f args ts ho hk
    | invoke r m => simp only [evOp, ho] at hk
  | makeMap t r =>
    cases r with
    | none => exact done (by rw [ho]; simp) (op_makeMap h t ho hk)
    | some r => simp only [evOp, ho] at hk
  | mapUpdate t m x y => exact done (by rw [ho]; simp) (op_insert h t m x y (.inl ho) hk)
  | insert t m x y => exact done (by rw [ho]; simp) (op_insert h t m x y (.inr ho) hk)
  | lookup t x i ok => exact done (by rw [ho]; simp) (op_lookup h t x i ok ho hk)
  | range t x => exact done (by rw [ho]; simp) (op_range h t x ho hk)
  | next x s =>
    cases s with
    | false => exact done (by rw [ho]; simp) (op_next h x ho hk)
    | true => simp only [evOp, ho] at hk
  | entry x => exact done (by rw [ho]; simp) (op_entry h x ho hk)
  | _ => simp only [evOp, ho] at hk

theorem RSt.put {σ : St} {a : Act} {w : World} {e : Env} (h : RSt G σ a w e) (d : Option Tmp) {v : V} {u : Value} (hv : RepF w e v u) : RSt G (σ.put d v) (a.put d u) w e := by
  cases d with
  | none => exact h
  | some d =>
    refine ⟨h.heap, ⟨by simpa [St.put, Act.put] using h.tmps.1, fun i v' u' hv' hu' => ?_⟩, h.defs, h.defsN, h.cur⟩
    simp only [St.put, Act.put] at hv' hu'
    rw [List.getElem?_set] at hv'
    rw [Array.getElem?_toList, Array.getElem?_setIfInBounds] at hu'
    split at hv'
    · rename_i hdi
      rw [if_pos hdi] at hu'
      split at hv'
      · split at hu'
        · cases hv'; cases hu'; exact hv
        · cases hu'
      · cases hv'
    · rename_i hdi
      rw [if_neg hdi] at hu'
      exact h.tmps.2 i v' u' hv' (by rw [Array.getElem?_toList]; exact hu')

@[simp] theorem put_cur (σ : St) (d : Option Tmp) (v : V) : (σ.put d v).cur = σ.cur := by cases d <;> rfl
@[simp] theorem put_H (σ : St) (d : Option Tmp) (v : V) : (σ.put d v).H = σ.H := by cases d <;> rfl

/-- What a piece of code leaves. -/
def Post (G : Nat → Option (List V)) (σ : St) (w : World) (e : Env) (Φ : Exit → St → Prop) (x : Exit) (a' : Act) (w' : World) : Prop :=
  ∃ σ' e', Φ x σ' ∧ σ'.cur = σ.cur ∧ RSt G σ' a' w' e' ∧ Ext σ.H w e σ'.H w' e'

theorem wanted_none {o : Oper} (h : o.guard = none) (y : Nat → Option Bool) : Region.wanted o y = true := by simp [Region.wanted, h]

theorem evOps_sound {ro : Option Nat} (all : List Oper) (k : St → Prop) (Q : Exit → Act → World → Prop) :
    ∀ (rest : List Oper) (i : Nat) (σ : St) (a : Act) (w : World) (e : Env), all.drop i = rest → RSt G σ a w e → evOps P G all rest σ k →
    (∀ σ' a' w' e', k σ' → σ'.cur = σ.cur → RSt G σ' a' w' e' → Ext σ.H w e σ'.H w' e' → Q .normal a' w') →
    wpOpsIn (FW ro) 0 P all.toArray Q (List.range' i rest.length) a w := by
  intro rest
  induction rest with
  | nil =>
    intro i σ a w e _ h hk hQ
    exact hQ σ a w e hk rfl h (.refl _ _ _)
  | cons o rest ih =>
    intro i σ a w e hd h hk hQ
    have ho : all[i]? = some o := by
      have : (all.drop i)[0]? = some o := by rw [hd]; rfl
      rwa [List.getElem?_drop] at this
    have hd' : all.drop (i + 1) = rest := by
      rw [← List.drop_drop, hd]
      rfl
    rw [List.length_cons, List.range'_succ]
    simp only [wpOpsIn, List.getElem?_toArray, ho]
    -- the operation is carried out
    have run : evOp P G o σ (fun v σ' => evOps P G all rest (σ'.put o.dst v) k) → o.wpIn (FW ro) 0 P a w (wpOpsIn (FW ro) 0 P all.toArray Q (List.range' (i + 1) rest.length)) Q := by
      intro hk
      refine evOp_sound h hk _ _ fun u w' v σ' e' hk hc hst hv hx => ?_
      refine ih (i + 1) (σ'.put o.dst v) _ _ e' hd' (hst.put o.dst hv) hk fun σ2 a2 w2 e2 hk2 hc2 hst2 hx2 => ?_
      refine hQ σ2 a2 w2 e2 hk2 (hc2.trans ((put_cur _ _ _).trans hc)) hst2 (hx.trans ?_)
      rwa [put_H] at hx2
    -- it is passed over
    have skip : evOps P G all rest (σ.put o.dst (.tup [])) k → (∀ f, o.about P w a.eval = some f → (FW ro).fn f) ∧ wpOpsIn (FW ro) 0 P all.toArray Q (List.range' (i + 1) rest.length) (a.put o.dst undef) w := by
      intro hk
      refine ⟨fun _ _ => trivial, ?_⟩
      refine ih (i + 1) (σ.put o.dst (.tup [])) _ _ e hd' (h.put o.dst ⟨.tup [] #[] rfl (fun i v u h => by simp at h), trivial⟩) hk fun σ2 a2 w2 e2 hk2 hc2 hst2 hx2 => ?_
      refine hQ σ2 a2 w2 e2 hk2 (hc2.trans (put_cur _ _ _)) hst2 ?_
      rwa [put_H] at hx2
    simp only [evOps] at hk
    cases hg : o.guard with
    | none =>
      rw [hg] at hk
      rw [if_pos (wanted_none hg _)]
      exact run hk
    | some g =>
      obtain ⟨j, want⟩ := g
      rw [hg] at hk
      simp only at hk
      have hw : Region.wanted o (yielded all.toArray a.tmps) = (yielded all.toArray a.tmps j == some want) := by simp [Region.wanted, hg]
      rw [hw]
      -- what the guard's temporary holds
      have hy : ∀ v, yieldedV all σ j = some v → ∃ u, ((all.toArray[j]?).bind (·.dst)).bind (a.tmps[·]?) = some u ∧ Rep w e v u := by
        intro v hv
        unfold yieldedV at hv
        simp only [List.getElem?_toArray]
        split at hv
        · rename_i d hdst
          rw [hdst]
          have hlt : d < σ.tmps.length := (List.getElem?_eq_some_iff.1 hv).1
          have hlt' : d < a.tmps.size := Nat.lt_of_lt_of_eq hlt (h.tmps.1.trans Array.length_toList)
          exact ⟨a.tmps[d], by simp [hlt'], (h.tmps.2 d v _ hv (by simp [hlt'])).1⟩
        · cases hv
      split at hk
      · rename_i b hv
        obtain ⟨u, hu, hr⟩ := hy _ hv
        have hub : u = .bool b := by cases hr; rfl
        have hyy : yielded all.toArray a.tmps j = some b := by unfold yielded; rw [hu, hub]
        rw [hyy]
        by_cases hb : b = want
        · rw [if_pos (by simp [hb])]
          exact run (hk.1 hb)
        · rw [if_neg (by simp [hb])]
          exact skip (hk.2 hb)
      · rename_i hv
        obtain ⟨u, hu, hr⟩ := hy _ hv
        have hyy : yielded all.toArray a.tmps j = none := by
          unfold yielded
          rw [hu]
          cases hr
          rfl
        rw [hyy, if_neg (by simp)]
        exact skip hk
      · exact hk.elim

theorem evCode_sound (c : Code) : ∀ (Φ : Exit → St → Prop) (σ : St), evCode P G c Φ σ → WPc P G c Φ σ := by
  induction c with
  | skip => intro Φ σ hk a w e h; exact wpIn_skip ⟨σ, e, hk, rfl, h, .refl _ _ _⟩
  | label l => intro Φ σ hk a w e h; exact wpIn_label ⟨σ, e, hk, rfl, h, .refl _ _ _⟩
  | exit id => intro Φ σ hk a w e h; exact wpIn_exit ⟨σ, e, hk, rfl, h, .refl _ _ _⟩
  | goto l => intro Φ σ hk a w e h; exact wpIn_goto ⟨σ, e, hk, rfl, h, .refl _ _ _⟩
  | ret => intro Φ σ hk a w e h; exact wpIn_ret ⟨σ, e, hk, rfl, h, .refl _ _ _⟩
  | refuse w => intro Φ σ hk; exact hk.elim
  | loop c ih => intro Φ σ hk; exact hk
  | scope c ih => intro Φ σ hk; exact hk
  | rangeFunc f ps a c iha ihc => intro Φ σ hk; exact hk
  | region id ops d =>
    intro Φ σ hk
    cases d with
    | true => exact hk
    | false =>
      intro a w e h
      refine wpIn_region ?_
      have := evOps_sound (ro := σ.cur.map e.ρ) ops.toList (Φ .normal) (fun x a' w' => ∃ σ' e', Φ x σ' ∧ σ'.cur = σ.cur ∧ RSt G σ' a' w' e' ∧ Ext σ.H w e σ'.H w' e') ops.toList 0 σ a w e rfl h hk
        fun σ' a' w' e' hk' hc' hst' hx' => ⟨σ', e', hk', hc', hst', hx'⟩
      rw [List.range_eq_range']
      simpa using this
  | seq x y ihx ihy =>
    intro Φ σ hk a w e h
    refine wpIn_seq ?_
    refine wpIn_mono (ihx _ σ hk a w e h) ?_
    rintro ex a' w' ⟨σ', e', hΦ, hc, hst, hx⟩
    have hro : σ'.cur.map e'.ρ = σ.cur.map e.ρ := by
      rw [hc]
      cases hcur : σ.cur with
      | none => rfl
      | some id => simp only [Option.map_some, Option.some.injEq]; exact hx.ρ id (by rw [← h.heap.len]; exact h.cur id hcur)
    cases ex with
    | normal =>
      have := ihy _ σ' hΦ a' w' e' hst
      rw [hro] at this
      refine wpIn_mono this ?_
      rintro ex2 a2 w2 ⟨σ2, e2, hΦ2, hc2, hst2, hx2⟩
      exact ⟨σ2, e2, hΦ2, hc2.trans hc, hst2, hx.trans hx2⟩
    | _ => exact ⟨σ', e', hΦ, hc, hst, hx⟩
  | cond c x y ihx ihy =>
    intro Φ σ hk a w e h
    simp only [evCode] at hk
    have hc := h.ev c
    generalize σ.ev c = vc at hk hc
    split at hk
    · rename_i t
      have ht : a.eval c = .bool t := rep_im hc
      refine wpIn_cond ht ?_
      cases t with
      | true => exact ihx Φ σ (hk.1 rfl) a w e h
      | false => exact ihy Φ σ (hk.2 rfl) a w e h
    · exact hk.elim
  | block id c ih =>
    intro Φ σ hk a w e h
    refine wpIn_block ?_
    refine wpIn_mono (ih _ σ hk a w e h) ?_
    rintro ex a' w' ⟨σ', e', hΦ, hc, hst, hx⟩
    cases ex with
    | exit i =>
      simp only at hΦ
      by_cases hi : i = id
      · rw [if_pos hi] at hΦ
        have : (Exit.inBlock id (fun x a' w' => ∃ σ' e', Φ x σ' ∧ σ'.cur = σ.cur ∧ RSt G σ' a' w' e' ∧ Ext σ.H w e σ'.H w' e') (.exit i) a' w') = (∃ σ' e', Φ .normal σ' ∧ σ'.cur = σ.cur ∧ RSt G σ' a' w' e' ∧ Ext σ.H w e σ'.H w' e') := by
          simp [Exit.inBlock, hi]
        rw [this]
        exact ⟨σ', e', hΦ, hc, hst, hx⟩
      · rw [if_neg hi] at hΦ
        have : (Exit.inBlock id (fun x a' w' => ∃ σ' e', Φ x σ' ∧ σ'.cur = σ.cur ∧ RSt G σ' a' w' e' ∧ Ext σ.H w e σ'.H w' e') (.exit i) a' w') = (∃ σ' e', Φ (.exit i) σ' ∧ σ'.cur = σ.cur ∧ RSt G σ' a' w' e' ∧ Ext σ.H w e σ'.H w' e') := by
          simp [Exit.inBlock, hi]
        rw [this]
        exact ⟨σ', e', hΦ, hc, hst, hx⟩
    | _ => exact ⟨σ', e', hΦ, hc, hst, hx⟩

/-! ### loops -/
/-- A state that says less. -/
def Weak (G : Nat → Option (List V)) (σ σ' : St) : Prop :=
  σ'.cur = σ.cur ∧ ∀ a w e, RSt G σ a w e → ∃ e', RSt G σ' a w e' ∧ ∀ H0 w0 e0, H0.length ≤ σ'.H.length → Ext H0 w0 e0 σ.H w e → Ext H0 w0 e0 σ'.H w e'

theorem Weak.refl (σ : St) : Weak G σ σ := ⟨rfl, fun _ _ e h => ⟨e, h, fun _ _ _ _ h => h⟩⟩

theorem wpIn_loop_rel {F : Fence} {n : Nat} {c : Code} {Q : Exit → Act → World → Prop} (I : Nat → Act → World → Prop)
    (round : ∀ m a w, I m a w → c.wpIn F n P (Exit.then (fun a' w' => ∃ m', m' < m ∧ I m' a' w') Q) a w) {m : Nat} {a : Act} {w : World} (h₀ : I m a w) : (Code.loop c).wpIn F n P Q a w := by
  intro b k cs hro hb hr
  have key : ∀ j a w, I j a w →
      ∃ e a' w', Q e a' w' ∧ ArrivesIn (Machine.fenced P F) P (lone (b.atR a (.code c :: .inLoop c :: k)) cs w) b k cs e a' w' := by
    intro j
    induction j using Nat.strongRecOn with
    | _ j ih =>
      intro a w hI
      obtain ⟨e, a₁, w₁, hq, harr⟩ := round j a w hI b (.inLoop c :: k) cs hro hb hr
      cases e with
      | normal =>
        obtain ⟨m', hlt, hI₁⟩ := hq
        obtain ⟨e₂, a₂, w₂, hq₂, harr₂⟩ := ih m' hlt a₁ w₁ hI₁
        exact ⟨e₂, a₂, w₂, hq₂, .of_steps (StepsIn.trans harr (.one (fenced_calm hb hr rfl) stepR_inLoop)) harr₂⟩
      | exit id => exact ⟨_, a₁, w₁, hq, .pass (x := .inLoop c) rfl (fun _ _ => .inl (by simp)) harr⟩
      | goto l => exact ⟨_, a₁, w₁, hq, .pass (x := .inLoop c) rfl (fun _ _ => .inl (by simp)) harr⟩
      | ret => exact ⟨_, a₁, w₁, hq, .pass (x := .inLoop c) rfl (fun _ _ => .inl (by simp)) harr⟩
      | panic ch => exact ⟨_, a₁, w₁, hq, .pass (x := .inLoop c) rfl (fun _ _ => .inl (by simp)) harr⟩
      | outgrown => exact ⟨_, a₁, w₁, hq, .pass (x := .inLoop c) rfl (fun _ _ => .inl (by simp)) harr⟩
  obtain ⟨e, a', w', hq, harr⟩ := key _ a w h₀
  exact ⟨e, a', w', hq, .of_steps (.one (fenced_calm hb hr rfl) stepR_loop) harr⟩

theorem cur_same {σ σ' : St} {w w' : World} {a : Act} {e e' : Env} (h : RSt G σ a w e) (hc : σ'.cur = σ.cur) (hx : Ext σ.H w e σ'.H w' e') : σ'.cur.map e'.ρ = σ.cur.map e.ρ := by
  rw [hc]
  cases hcur : σ.cur with
  | none => rfl
  | some id => simp only [Option.map_some, Option.some.injEq]; exact hx.ρ id (by rw [← h.heap.len]; exact h.cur id hcur)

/-- A loop: an invariant over states, with a number that every round lowers. -/
theorem wpc_loop {c : Code} {Φ : Exit → St → Prop} {σ : St} (I : Nat → St → Prop) (m0 : Nat) (σ0 : St) (hw0 : Weak G σ σ0) (h0 : I m0 σ0) (hlen : ∀ m σ1, I m σ1 → σ.H.length ≤ σ1.H.length)
    (round : ∀ m σ1, I m σ1 → σ1.cur = σ.cur → evCode P G c (fun x σ' => match x with
      | .normal => ∃ m' σ2, m' < m ∧ Weak G σ' σ2 ∧ I m' σ2
      | x => Φ x σ') σ1) : WPc P G (.loop c) Φ σ := by
  intro a w e h
  obtain ⟨e0, hst0, hx0⟩ := hw0.2 a w e h
  refine wpIn_loop_rel (m := m0) (fun m a' w' => ∃ σ1 e1, I m σ1 ∧ σ1.cur = σ.cur ∧ RSt G σ1 a' w' e1 ∧ Ext σ.H w e σ1.H w' e1) ?_ ⟨σ0, e0, h0, hw0.1, hst0, hx0 _ _ _ (hlen _ _ h0) (.refl _ _ _)⟩
  rintro m a1 w1 ⟨σ1, e1, hI, hc1, hst1, hx1⟩
  have := evCode_sound c _ σ1 (round m σ1 hI hc1) a1 w1 e1 hst1
  rw [cur_same h hc1 hx1] at this
  refine wpIn_mono this ?_
  rintro x a2 w2 ⟨σ2, e2, hΦ, hc2, hst2, hx2⟩
  cases x with
  | normal =>
    obtain ⟨m', σ3, hlt, hwk, hI3⟩ := hΦ
    obtain ⟨e3, hst3, hx3⟩ := hwk.2 a2 w2 e2 hst2
    exact ⟨m', hlt, σ3, e3, hI3, hwk.1.trans (hc2.trans hc1), hst3, hx3 _ _ _ (hlen _ _ hI3) (hx1.trans hx2)⟩
  | _ => exact ⟨σ2, e2, hΦ, hc2.trans hc1, hst2, hx1.trans hx2⟩

/-! ### weakening -/
/-- A value that says less, where blocks from number n on are forgotten. -/
inductive VW (n : Nat) : V → V → Prop
  | bad (v : V) : VW n v .bad
  | im (v : Value) : VW n (.im v) (.im v)
  | str (l : List UInt8) : VW n (.str l) (.str l)
  | ptr (id off : Nat) (h : id < n) : VW n (.ptr id off) (.ptr id off)
  | mp (id : Nat) (h : id < n) : VW n (.mp id) (.mp id)
  | yld (id : Nat) (h : id < n) : VW n (.yld id) (.yld id)
  | arr (id es len : Nat) (h : id < n) : VW n (.arr id es len) (.arr id es len)
  | nil (es es' : Nat) (fl fl' : Fl) : (fl = .tight ∨ fl' = .no ∨ fl = fl') → VW n (.dat es [] fl) (.dat es' [] fl')
  | dat (es : Nat) (rows : List (List V)) (fl : Fl) : VW n (.dat es rows fl) (.dat es rows fl)
  | no (es : Nat) (rows : List (List V)) (fl : Fl) : VW n (.dat es rows fl) (.dat es rows .no)
  | cls (es : Nat) (rows : List (List V)) (c : Nat) : VW n (.dat es rows .tight) (.dat es rows (.cls c))
  | rp (cs : List V) : VW n (.rp cs) (.rp cs)
  | fn (f : Fn) (a b : List V) (ha : ∀ (i : Nat) (v : V), a[i]? = some v → VW n v v) (hb : ∀ (i : Nat) (v : V), b[i]? = some v → VW n v v) : VW n (.fn f a b) (.fn f a b)
  | agg (cs cs' : List V) (hl : cs.length = cs'.length) (h : ∀ (i : Nat) (v v' : V), cs[i]? = some v → cs'[i]? = some v' → VW n v v') : VW n (.agg cs) (.agg cs')
  | tup (cs cs' : List V) (hl : cs.length = cs'.length) (h : ∀ (i : Nat) (v v' : V), cs[i]? = some v → cs'[i]? = some v' → VW n v v') : VW n (.tup cs) (.tup cs')

end Go.Abs
