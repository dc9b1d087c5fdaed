/- The walk over abstract states. -/
import Derived.Test.YtdpbkooiibaaaaaDoorAbs1
import Derived.OrdersIn

/-! Sound9 -/
/- All operations; regions; code; functions; rounds; ranges over functions; loops. -/
namespace Go.Abs
open Go.RowKit

variable {P : Program} {G : Nat → Option (List V)}

theorem evOp_sound {ro : Option Nat} {o : Oper} {σ : St} {a : Act} {w : World} {e : Env} {k : V → St → Prop} (h : RSt G σ a w e) (hk : evOp P G o σ k) : OpWp P G ro o σ a w e k := by
  have done : (∀ c, o.op ≠ .defer c) → OpDone P G o σ a w e k → OpWp P G ro o σ a w e k := fun h1 h2 => opWp_of_done h1 h2
  cases ho : o.op with
  | move x => exact done (by rw [ho]; simp) (op_move h x (.inl ho) hk)
  | assign x => exact done (by rw [ho]; simp) (op_move h x (.inr ho) hk)
  | alloc t => exact done (by rw [ho]; simp) (op_alloc h t ho hk)
  | box t x => exact done (by rw [ho]; simp) (op_box h t x ho hk)
  | build t parts => exact done (by rw [ho]; simp) (op_build h t parts ho hk)
  | buildSlice t len parts => exact done (by rw [ho]; simp) (op_buildSlice h t len parts ho hk)
  | load t x => exact done (by rw [ho]; simp) (op_load h t x ho hk)
  | store t x y => exact done (by rw [ho]; simp) (op_store h t x y ho hk)
  | nilCheck x => exact done (by rw [ho]; simp) (op_nilCheck h x ho hk)
  | binOp op t x y t' => exact done (by rw [ho]; simp) (op_binOp h op t t' x y ho hk)
  | unOp op t x => exact done (by rw [ho]; simp) (op_unOp h op t x ho hk)
  | convert src dst x => exact done (by rw [ho]; simp) (op_convert h src dst x ho hk)
  | makeFunc fn x y => exact done (by rw [ho]; simp) (op_makeFunc h fn x y ho hk)
  | fieldAddr t x f => exact done (by rw [ho]; simp) (op_fieldAddr h t x f ho hk)
  | field t x f => exact done (by rw [ho]; simp) (op_field h t x f ho hk)
  | index t x i => exact done (by rw [ho]; simp) (op_index h t x i ho hk)
  | indexAddr t x i => exact done (by rw [ho]; simp) (op_indexAddr h t x i ho hk)
  | pick c x y => exact done (by rw [ho]; simp) (op_pick h c x y ho hk)
  | extract x i => exact done (by rw [ho]; simp) (op_extract h x i ho hk)
  | call c =>
    obtain ⟨callee, args, ts⟩ := c
    cases callee with
    | builtin b => exact done (by rw [ho]; simp) (op_builtin h b args ts ho hk)
    | value f => exact op_call h f args ts ho hk
    | invoke r m => simp only [evOp, ho] at hk
  | makeMap t r =>
    cases r with
    | none => exact done (by rw [ho]; simp) (op_makeMap h t ho hk)
    | some r => simp only [evOp, ho] at hk
  | mapUpdate t m x y => exact done (by rw [ho]; simp) (op_insert h t m x y (.inl ho) hk)
  | insert t m x y => exact done (by rw [ho]; simp) (op_insert h t m x y (.inr ho) hk)
  | lookup t x i ok => exact done (by rw [ho]; simp) (op_lookup h t x i ok ho hk)
  | range t x => exact done (by rw [ho]; simp) (op_range h t x ho hk)
  | next x s =>
    cases s with
    | false => exact done (by rw [ho]; simp) (op_next h x ho hk)
    | true => simp only [evOp, ho] at hk
  | entry x => exact done (by rw [ho]; simp) (op_entry h x ho hk)
  | makeSlice t x y => exact done (by rw [ho]; simp) (op_make h t x y ho hk)
  | slice t x lo hi mx =>
    cases mx with
    | none => exact done (by rw [ho]; simp) (op_slice h t x lo hi ho hk)
    | some r => simp only [evOp, ho] at hk
  | _ => simp only [evOp, ho] at hk

theorem RSt.put {σ : St} {a : Act} {w : World} {e : Env} (h : RSt G σ a w e) (d : Option Tmp) {v : V} {u : Value} (hv : RepF w e v u) : RSt G (σ.put d v) (a.put d u) w e := by
  cases d with
  | none => exact h
  | some d =>
    refine ⟨h.heap, ⟨by simpa [St.put, Act.put] using h.tmps.1, fun i v' u' hv' hu' => ?_⟩, h.defs, h.defsN, h.cur⟩
    simp only [St.put, Act.put] at hv' hu'
    rw [List.getElem?_set] at hv'
    rw [Array.getElem?_toList, Array.getElem?_setIfInBounds] at hu'
    split at hv'
    · rename_i hdi
      rw [if_pos hdi] at hu'
      split at hv'
      · split at hu'
        · cases hv'; cases hu'; exact hv
        · cases hu'
      · cases hv'
    · rename_i hdi
      rw [if_neg hdi] at hu'
      exact h.tmps.2 i v' u' hv' (by rw [Array.getElem?_toList]; exact hu')

@[simp] theorem put_cur (σ : St) (d : Option Tmp) (v : V) : (σ.put d v).cur = σ.cur := by cases d <;> rfl
@[simp] theorem put_H (σ : St) (d : Option Tmp) (v : V) : (σ.put d v).H = σ.H := by cases d <;> rfl

/-- What a piece of code leaves. -/
def Post (G : Nat → Option (List V)) (σ : St) (w : World) (e : Env) (Φ : Exit → St → Prop) (x : Exit) (a' : Act) (w' : World) : Prop :=
  ∃ σ' e', Φ x σ' ∧ σ'.cur = σ.cur ∧ RSt G σ' a' w' e' ∧ Ext σ.H w e σ'.H w' e'

theorem wanted_none {o : Oper} (h : o.guard = none) (y : Nat → Option Bool) : Region.wanted o y = true := by simp [Region.wanted, h]

theorem evOps_sound {ro : Option Nat} (all : List Oper) (k : St → Prop) (Q : Exit → Act → World → Prop) :
    ∀ (rest : List Oper) (i : Nat) (σ : St) (a : Act) (w : World) (e : Env), all.drop i = rest → RSt G σ a w e → evOps P G all rest σ k →
    (∀ σ' a' w' e', k σ' → σ'.cur = σ.cur → RSt G σ' a' w' e' → Ext σ.H w e σ'.H w' e' → Q .normal a' w') →
    wpOpsIn (FW ro) 0 P all.toArray Q (List.range' i rest.length) a w := by
  intro rest
  induction rest with
  | nil =>
    intro i σ a w e _ h hk hQ
    exact hQ σ a w e hk rfl h (.refl _ _ _)
  | cons o rest ih =>
    intro i σ a w e hd h hk hQ
    have ho : all[i]? = some o := by
      have : (all.drop i)[0]? = some o := by rw [hd]; rfl
      rwa [List.getElem?_drop] at this
    have hd' : all.drop (i + 1) = rest := by
      rw [← List.drop_drop, hd]
      rfl
    rw [List.length_cons, List.range'_succ]
    simp only [wpOpsIn, List.getElem?_toArray, ho]
    -- the operation is carried out
    have run : evOp P G o σ (fun v σ' => evOps P G all rest (σ'.put o.dst v) k) → o.wpIn (FW ro) 0 P a w (wpOpsIn (FW ro) 0 P all.toArray Q (List.range' (i + 1) rest.length)) Q := by
      intro hk
      refine evOp_sound h hk _ _ fun u w' v σ' e' hk hc hst hv hx => ?_
      refine ih (i + 1) (σ'.put o.dst v) _ _ e' hd' (hst.put o.dst hv) hk fun σ2 a2 w2 e2 hk2 hc2 hst2 hx2 => ?_
      refine hQ σ2 a2 w2 e2 hk2 (hc2.trans ((put_cur _ _ _).trans hc)) hst2 (hx.trans ?_)
      rwa [put_H] at hx2
    -- it is passed over
    have skip : evOps P G all rest (σ.put o.dst (.tup [])) k → (∀ f, o.about P w a.eval = some f → (FW ro).fn f) ∧ wpOpsIn (FW ro) 0 P all.toArray Q (List.range' (i + 1) rest.length) (a.put o.dst undef) w := by
      intro hk
      refine ⟨fun _ _ => trivial, ?_⟩
      refine ih (i + 1) (σ.put o.dst (.tup [])) _ _ e hd' (h.put o.dst ⟨.tup [] #[] rfl (fun i v u h => by simp at h), trivial⟩) hk fun σ2 a2 w2 e2 hk2 hc2 hst2 hx2 => ?_
      refine hQ σ2 a2 w2 e2 hk2 (hc2.trans (put_cur _ _ _)) hst2 ?_
      rwa [put_H] at hx2
    simp only [evOps] at hk
    cases hg : o.guard with
    | none =>
      rw [hg] at hk
      rw [if_pos (wanted_none hg _)]
      exact run hk
    | some g =>
      obtain ⟨j, want⟩ := g
      rw [hg] at hk
      simp only at hk
      have hw : Region.wanted o (yielded all.toArray a.tmps) = (yielded all.toArray a.tmps j == some want) := by simp [Region.wanted, hg]
      rw [hw]
      -- what the guard's temporary holds
      have hy : ∀ v, yieldedV all σ j = some v → ∃ u, ((all.toArray[j]?).bind (·.dst)).bind (a.tmps[·]?) = some u ∧ Rep w e v u := by
        intro v hv
        unfold yieldedV at hv
        simp only [List.getElem?_toArray]
        split at hv
        · rename_i d hdst
          rw [hdst]
          have hlt : d < σ.tmps.length := (List.getElem?_eq_some_iff.1 hv).1
          have hlt' : d < a.tmps.size := Nat.lt_of_lt_of_eq hlt (h.tmps.1.trans Array.length_toList)
          exact ⟨a.tmps[d], by simp [hlt'], (h.tmps.2 d v _ hv (by simp [hlt'])).1⟩
        · cases hv
      split at hk
      · rename_i b hv
        obtain ⟨u, hu, hr⟩ := hy _ hv
        have hub : u = .bool b := by cases hr; rfl
        have hyy : yielded all.toArray a.tmps j = some b := by unfold yielded; rw [hu, hub]
        rw [hyy]
        by_cases hb : b = want
        · rw [if_pos (by simp [hb])]
          exact run (hk.1 hb)
        · rw [if_neg (by simp [hb])]
          exact skip (hk.2 hb)
      · rename_i hv
        obtain ⟨u, hu, hr⟩ := hy _ hv
        have hyy : yielded all.toArray a.tmps j = none := by
          unfold yielded
          rw [hu]
          cases hr
          rfl
        rw [hyy, if_neg (by simp)]
        exact skip hk
      · exact hk.elim

theorem evCode_sound (c : Code) : ∀ (Φ : Exit → St → Prop) (σ : St), evCode P G c Φ σ → WPc P G c Φ σ := by
  induction c with
  | skip => intro Φ σ hk a w e h; exact wpIn_skip ⟨σ, e, hk, rfl, h, .refl _ _ _⟩
  | label l => intro Φ σ hk a w e h; exact wpIn_label ⟨σ, e, hk, rfl, h, .refl _ _ _⟩
  | exit id => intro Φ σ hk a w e h; exact wpIn_exit ⟨σ, e, hk, rfl, h, .refl _ _ _⟩
  | goto l => intro Φ σ hk a w e h; exact wpIn_goto ⟨σ, e, hk, rfl, h, .refl _ _ _⟩
  | ret => intro Φ σ hk a w e h; exact wpIn_ret ⟨σ, e, hk, rfl, h, .refl _ _ _⟩
  | refuse w => intro Φ σ hk; exact hk.elim
  | loop c ih => intro Φ σ hk; exact hk
  | scope c ih => intro Φ σ hk; exact hk
  | rangeFunc f ps a c iha ihc => intro Φ σ hk; exact hk
  | region id ops d =>
    intro Φ σ hk
    cases d with
    | true => exact hk
    | false =>
      intro a w e h
      refine wpIn_region ?_
      have := evOps_sound (ro := σ.cur.map e.ρ) ops.toList (Φ .normal) (fun x a' w' => ∃ σ' e', Φ x σ' ∧ σ'.cur = σ.cur ∧ RSt G σ' a' w' e' ∧ Ext σ.H w e σ'.H w' e') ops.toList 0 σ a w e rfl h hk
        fun σ' a' w' e' hk' hc' hst' hx' => ⟨σ', e', hk', hc', hst', hx'⟩
      rw [List.range_eq_range']
      simpa using this
  | seq x y ihx ihy =>
    intro Φ σ hk a w e h
    refine wpIn_seq ?_
    refine wpIn_mono (ihx _ σ hk a w e h) ?_
    rintro ex a' w' ⟨σ', e', hΦ, hc, hst, hx⟩
    have hro : σ'.cur.map e'.ρ = σ.cur.map e.ρ := by
      rw [hc]
      cases hcur : σ.cur with
      | none => rfl
      | some id => simp only [Option.map_some, Option.some.injEq]; exact hx.ρ id (by rw [← h.heap.len]; exact h.cur id hcur)
    cases ex with
    | normal =>
      have := ihy _ σ' hΦ a' w' e' hst
      rw [hro] at this
      refine wpIn_mono this ?_
      rintro ex2 a2 w2 ⟨σ2, e2, hΦ2, hc2, hst2, hx2⟩
      exact ⟨σ2, e2, hΦ2, hc2.trans hc, hst2, hx.trans hx2⟩
    | _ => exact ⟨σ', e', hΦ, hc, hst, hx⟩
  | cond c x y ihx ihy =>
    intro Φ σ hk a w e h
    simp only [evCode] at hk
    have hc := h.ev c
    generalize σ.ev c = vc at hk hc
    split at hk
    · rename_i t
      have ht : a.eval c = .bool t := rep_im hc
      refine wpIn_cond ht ?_
      cases t with
      | true => exact ihx Φ σ (hk.1 rfl) a w e h
      | false => exact ihy Φ σ (hk.2 rfl) a w e h
    · exact hk.elim
  | block id c ih =>
    intro Φ σ hk a w e h
    refine wpIn_block ?_
    refine wpIn_mono (ih _ σ hk a w e h) ?_
    rintro ex a' w' ⟨σ', e', hΦ, hc, hst, hx⟩
    cases ex with
    | exit i =>
      simp only at hΦ
      by_cases hi : i = id
      · rw [if_pos hi] at hΦ
        have : (Exit.inBlock id (fun x a' w' => ∃ σ' e', Φ x σ' ∧ σ'.cur = σ.cur ∧ RSt G σ' a' w' e' ∧ Ext σ.H w e σ'.H w' e') (.exit i) a' w') = (∃ σ' e', Φ .normal σ' ∧ σ'.cur = σ.cur ∧ RSt G σ' a' w' e' ∧ Ext σ.H w e σ'.H w' e') := by
          simp [Exit.inBlock, hi]
        rw [this]
        exact ⟨σ', e', hΦ, hc, hst, hx⟩
      · rw [if_neg hi] at hΦ
        have : (Exit.inBlock id (fun x a' w' => ∃ σ' e', Φ x σ' ∧ σ'.cur = σ.cur ∧ RSt G σ' a' w' e' ∧ Ext σ.H w e σ'.H w' e') (.exit i) a' w') = (∃ σ' e', Φ (.exit i) σ' ∧ σ'.cur = σ.cur ∧ RSt G σ' a' w' e' ∧ Ext σ.H w e σ'.H w' e') := by
          simp [Exit.inBlock, hi]
        rw [this]
        exact ⟨σ', e', hΦ, hc, hst, hx⟩
    | _ => exact ⟨σ', e', hΦ, hc, hst, hx⟩

/-! ### loops -/
/-- A state that says less. -/
def Weak (G : Nat → Option (List V)) (σ σ' : St) : Prop :=
  σ'.cur = σ.cur ∧ ∀ a w e, RSt G σ a w e → ∃ e', RSt G σ' a w e' ∧ ∀ H0 w0 e0, H0.length ≤ σ'.H.length → Ext H0 w0 e0 σ.H w e → Ext H0 w0 e0 σ'.H w e'

theorem Weak.refl (σ : St) : Weak G σ σ := ⟨rfl, fun _ _ e h => ⟨e, h, fun _ _ _ _ h => h⟩⟩

theorem wpIn_loop_rel {F : Fence} {n : Nat} {c : Code} {Q : Exit → Act → World → Prop} (I : Nat → Act → World → Prop)
    (round : ∀ m a w, I m a w → c.wpIn F n P (Exit.then (fun a' w' => ∃ m', m' < m ∧ I m' a' w') Q) a w) {m : Nat} {a : Act} {w : World} (h₀ : I m a w) : (Code.loop c).wpIn F n P Q a w := by
  intro b k cs hro hb hr
  have key : ∀ j a w, I j a w →
      ∃ e a' w', Q e a' w' ∧ ArrivesIn (Machine.fenced P F) P (lone (b.atR a (.code c :: .inLoop c :: k)) cs w) b k cs e a' w' := by
    intro j
    induction j using Nat.strongRecOn with
    | _ j ih =>
      intro a w hI
      obtain ⟨e, a₁, w₁, hq, harr⟩ := round j a w hI b (.inLoop c :: k) cs hro hb hr
      cases e with
      | normal =>
        obtain ⟨m', hlt, hI₁⟩ := hq
        obtain ⟨e₂, a₂, w₂, hq₂, harr₂⟩ := ih m' hlt a₁ w₁ hI₁
        exact ⟨e₂, a₂, w₂, hq₂, .of_steps (StepsIn.trans harr (.one (fenced_calm hb hr rfl) stepR_inLoop)) harr₂⟩
      | exit id => exact ⟨_, a₁, w₁, hq, .pass (x := .inLoop c) rfl (fun _ _ => .inl (by simp)) harr⟩
      | goto l => exact ⟨_, a₁, w₁, hq, .pass (x := .inLoop c) rfl (fun _ _ => .inl (by simp)) harr⟩
      | ret => exact ⟨_, a₁, w₁, hq, .pass (x := .inLoop c) rfl (fun _ _ => .inl (by simp)) harr⟩
      | panic ch => exact ⟨_, a₁, w₁, hq, .pass (x := .inLoop c) rfl (fun _ _ => .inl (by simp)) harr⟩
      | outgrown => exact ⟨_, a₁, w₁, hq, .pass (x := .inLoop c) rfl (fun _ _ => .inl (by simp)) harr⟩
  obtain ⟨e, a', w', hq, harr⟩ := key _ a w h₀
  exact ⟨e, a', w', hq, .of_steps (.one (fenced_calm hb hr rfl) stepR_loop) harr⟩

theorem cur_same {σ σ' : St} {w w' : World} {a : Act} {e e' : Env} (h : RSt G σ a w e) (hc : σ'.cur = σ.cur) (hx : Ext σ.H w e σ'.H w' e') : σ'.cur.map e'.ρ = σ.cur.map e.ρ := by
  rw [hc]
  cases hcur : σ.cur with
  | none => rfl
  | some id => simp only [Option.map_some, Option.some.injEq]; exact hx.ρ id (by rw [← h.heap.len]; exact h.cur id hcur)

/-- A loop: an invariant over states, with a number that every round lowers. -/
theorem wpc_loop {c : Code} {Φ : Exit → St → Prop} {σ : St} (I : Nat → St → Prop) (m0 : Nat) (σ0 : St) (hw0 : Weak G σ σ0) (h0 : I m0 σ0) (hlen : ∀ m σ1, I m σ1 → σ.H.length ≤ σ1.H.length)
    (round : ∀ m σ1, I m σ1 → σ1.cur = σ.cur → evCode P G c (fun x σ' => match x with
      | .normal => ∃ m' σ2, m' < m ∧ Weak G σ' σ2 ∧ I m' σ2
      | x => Φ x σ') σ1) : WPc P G (.loop c) Φ σ := by
  intro a w e h
  obtain ⟨e0, hst0, hx0⟩ := hw0.2 a w e h
  refine wpIn_loop_rel (m := m0) (fun m a' w' => ∃ σ1 e1, I m σ1 ∧ σ1.cur = σ.cur ∧ RSt G σ1 a' w' e1 ∧ Ext σ.H w e σ1.H w' e1) ?_ ⟨σ0, e0, h0, hw0.1, hst0, hx0 _ _ _ (hlen _ _ h0) (.refl _ _ _)⟩
  rintro m a1 w1 ⟨σ1, e1, hI, hc1, hst1, hx1⟩
  have := evCode_sound c _ σ1 (round m σ1 hI hc1) a1 w1 e1 hst1
  rw [cur_same h hc1 hx1] at this
  refine wpIn_mono this ?_
  rintro x a2 w2 ⟨σ2, e2, hΦ, hc2, hst2, hx2⟩
  cases x with
  | normal =>
    obtain ⟨m', σ3, hlt, hwk, hI3⟩ := hΦ
    obtain ⟨e3, hst3, hx3⟩ := hwk.2 a2 w2 e2 hst2
    exact ⟨m', hlt, σ3, e3, hI3, hwk.1.trans (hc2.trans hc1), hst3, hx3 _ _ _ (hlen _ _ hI3) (hx1.trans hx2)⟩
  | _ => exact ⟨σ2, e2, hΦ, hc2.trans hc1, hst2, hx1.trans hx2⟩

/-! ### weakening -/
/-- Data that say less of their spare places, rows within rows too. -/
inductive DW : V → V → Prop
  | refl (v : V) : DW v v
  | nil (es es' : Nat) (fl : Fl) : DW (.dat es [] fl) (.dat es' [] .no)
  | rows (es : Nat) (rows rows' : List (List V)) (fl : Fl) (hl : rows.length = rows'.length) (hr : ∀ (i : Nat) (r r' : List V), rows[i]? = some r → rows'[i]? = some r' → r.length = r'.length)
      (h : ∀ (i j : Nat) (v v' : V), at2 rows i j = some v → at2 rows' i j = some v' → DW v v') : DW (.dat es rows fl) (.dat es rows' .no)

theorem at2_other {rows rows' : List (List V)} (hl : rows.length = rows'.length) (hr : ∀ (i : Nat) (r r' : List V), rows[i]? = some r → rows'[i]? = some r' → r.length = r'.length) {i j : Nat} {v' : V}
    (h : at2 rows' i j = some v') : ∃ v, at2 rows i j = some v := by
  unfold at2 at h ⊢
  obtain ⟨r', hr', hj⟩ := Option.bind_eq_some_iff.1 h
  have hi : i < rows.length := by have := (List.getElem?_eq_some_iff.1 hr').1; omega
  have hrl := hr i rows[i] r' (List.getElem?_eq_getElem hi) hr'
  have hj' : j < rows[i].length := by have := (List.getElem?_eq_some_iff.1 hj).1; omega
  exact ⟨rows[i][j], by rw [List.getElem?_eq_getElem hi]; exact List.getElem?_eq_getElem hj'⟩

theorem rows_length {rows rows' : List (List V)} {es : Nat} (hl : rows.length = rows'.length) (hr : ∀ (i : Nat) (r r' : List V), rows[i]? = some r → rows'[i]? = some r' → r.length = r'.length)
    (h : ∀ r ∈ rows, r.length = es) : ∀ r ∈ rows', r.length = es := by
  intro r hm
  obtain ⟨i, hi, rfl⟩ := List.getElem_of_mem hm
  have hi' : i < rows.length := by omega
  rw [← hr i rows[i] rows'[i] (List.getElem?_eq_getElem hi') (List.getElem?_eq_getElem hi)]
  exact h _ (List.getElem_mem hi')

theorem DW.rep {v v' : V} (h : DW v v') : ∀ {w : World} {e : Env} {u : Value}, Rep w e v u → Rep w e v' u := by
  induction h with
  | refl v => intro w e u h; exact h
  | nil es es' fl =>
    intro w e u h
    cases h with
    | nil => exact .nil _ _
    | nul => exact .nul _ _ _
    | dat _ _ _ b o cap uu hes hcap ht h1 h2 =>
      exact .dat es' [] .no b o cap uu (by simp) hcap (by simp) (fun i j v h => by simp [at2] at h) (fun i j v h => by simp [at2] at h)
  | rows es rows rows' fl hl hr hh ih =>
    intro w e u h
    cases h with
    | nil =>
      obtain rfl : rows' = [] := List.eq_nil_of_length_eq_zero hl.symm
      exact .nil _ _
    | nul =>
      obtain rfl : rows' = [] := List.eq_nil_of_length_eq_zero hl.symm
      exact .nul _ _ _
    | dat _ _ _ b o cap uu hes hcap ht h1 h2 =>
      rw [hl]
      rw [hl] at hcap
      refine .dat es rows' .no b o cap uu (rows_length hl hr hes) hcap (by simp) (fun i j v' hv' => ?_) (fun i j v' hv' => ?_)
      · obtain ⟨v, hv⟩ := at2_other hl hr hv'
        exact h1 i j v hv
      · obtain ⟨v, hv⟩ := at2_other hl hr hv'
        exact ih i j v v' hv hv' (h2 i j v hv)

/-- A value that says less, where blocks from number n on are forgotten. -/
inductive VW (n : Nat) : V → V → Prop
  | bad (v : V) : VW n v .bad
  | im (v : Value) : VW n (.im v) (.im v)
  | str (l : List UInt8) : VW n (.str l) (.str l)
  | ptr (id off : Nat) (h : id < n) : VW n (.ptr id off) (.ptr id off)
  | mp (id : Nat) (h : id < n) : VW n (.mp id) (.mp id)
  | yld (id : Nat) (h : id < n) : VW n (.yld id) (.yld id)
  | arr (id es len : Nat) (h : id < n) : VW n (.arr id es len) (.arr id es len)
  | nil (es es' : Nat) (fl fl' : Fl) : (fl = .tight ∨ fl' = .no ∨ fl = fl') → VW n (.dat es [] fl) (.dat es' [] fl')
  | dat (es : Nat) (rows : List (List V)) (fl : Fl) : VW n (.dat es rows fl) (.dat es rows fl)
  | no (es : Nat) (rows : List (List V)) (fl : Fl) : VW n (.dat es rows fl) (.dat es rows .no)
  | cls (es : Nat) (rows : List (List V)) (c : Nat) : VW n (.dat es rows .tight) (.dat es rows (.cls c))
  | rows (es : Nat) (rows rows' : List (List V)) (fl : Fl) (hl : rows.length = rows'.length) (hr : ∀ (i : Nat) (r r' : List V), rows[i]? = some r → rows'[i]? = some r' → r.length = r'.length)
      (h : ∀ (i j : Nat) (v v' : V), at2 rows i j = some v → at2 rows' i j = some v' → DW v v') : VW n (.dat es rows fl) (.dat es rows' .no)
  | rp (cs : List V) : VW n (.rp cs) (.rp cs)
  | fn (f : Fn) (a b : List V) (ha : ∀ (i : Nat) (v : V), a[i]? = some v → VW n v v) (hb : ∀ (i : Nat) (v : V), b[i]? = some v → VW n v v) : VW n (.fn f a b) (.fn f a b)
  | agg (cs cs' : List V) (hl : cs.length = cs'.length) (h : ∀ (i : Nat) (v v' : V), cs[i]? = some v → cs'[i]? = some v' → VW n v v') : VW n (.agg cs) (.agg cs')
  | tup (cs cs' : List V) (hl : cs.length = cs'.length) (h : ∀ (i : Nat) (v v' : V), cs[i]? = some v → cs'[i]? = some v' → VW n v v') : VW n (.tup cs) (.tup cs')

end Go.Abs

/-! Sound10 -/
/- Weakening; functions; rounds; ranges over functions; calls that know nothing of the caller's blocks. -/
namespace Go.Abs
open Go.RowKit

variable {P : Program} {G : Nat → Option (List V)}

/-! ### weakening -/
def Env.cutTo (e : Env) (n : Nat) : Env := { e with N := n }

theorem VW.rep {w : World} {e : Env} {n : Nat} (_hn : n ≤ e.N) {v v' : V} (h : VW n v v') : ∀ {u : Value}, Rep w e v u → Rep w (e.cutTo n) v' u := by
  induction h with
  | bad v => intro u _; exact .bad _
  | im v => intro u h; cases h; exact .im _
  | str l => intro u h; cases h; exact .str _
  | ptr id off hid => intro u h; cases h; exact Rep.ptr (e := e.cutTo n) id off hid
  | mp id hid => intro u h; cases h; exact Rep.mp (e := e.cutTo n) id hid
  | yld id hid => intro u h; cases h; exact Rep.yld (e := e.cutTo n) id hid
  | arr id es len hid => intro u h; cases h with
    | arr _ _ _ cap _ hc => exact Rep.arr (e := e.cutTo n) id es len cap hid hc
  | nil es es' fl fl' hfl =>
    intro u h
    cases h with
    | nil => exact .nil _ _
    | nul => exact .nul _ _ _
    | dat _ _ _ b o cap uu hes hcap ht h1 h2 =>
      refine .dat es' [] fl' b o cap uu (by simp) hcap ?_ (fun i j v h => by simp [at2] at h) (fun i j v h => by simp [at2] at h)
      intro hf
      rcases hfl with h | h | h
      · exact ht h
      · rw [h] at hf; cases hf
      · exact ht (h.trans hf)
  | dat es rows fl =>
    intro u h
    cases h with
    | nil => exact .nil _ _
    | nul => exact .nul _ _ _
    | dat _ _ _ b o cap uu hes hcap ht h1 h2 => exact .dat es rows fl b o cap uu hes hcap ht h1 h2
  | no es rows fl =>
    intro u h
    cases h with
    | nil => exact .nil _ _
    | nul => exact .nul _ _ _
    | dat _ _ _ b o cap uu hes hcap ht h1 h2 => exact .dat es rows .no b o cap uu hes hcap (by simp) h1 h2
  | cls es rows c =>
    intro u h
    cases h with
    | nil => exact .nil _ _
    | nul => exact .nul _ _ _
    | dat _ _ _ b o cap uu hes hcap ht h1 h2 => exact .dat es rows (.cls c) b o cap uu hes hcap (by simp) h1 h2
  | rows es rows rows' fl hl hr hh =>
    intro u h
    have h' := (DW.rows es rows rows' fl hl hr hh).rep h
    cases h' with
    | nil => exact .nil _ _
    | nul => exact .nul _ _ _
    | dat _ _ _ b o cap uu hes hcap ht h1 h2 => exact .dat es rows' .no b o cap uu hes hcap (by simp) h1 h2
  | rp cs =>
    intro u h
    cases h with
    | rp _ b o uu h1 h2 => exact .rp cs b o uu h1 h2
  | fn f a b ha hb iha ihb =>
    intro u h
    cases h with
    | fn _ _ _ f' c' hl1 hl2 h1 h2 => exact .fn f a b f' c' hl1 hl2 (fun i v u hv hu => iha i v hv (h1 i v u hv hu)) (fun i v u hv hu => ihb i v hv (h2 i v u hv hu))
  | agg cs cs' hl hh ih =>
    intro u h
    cases h with
    | agg _ us hl' h1 =>
      refine .agg cs' us (by omega) fun i v u hv hu => ?_
      have hi : i < cs.length := by have := (List.getElem?_eq_some_iff.1 hv).1; omega
      exact ih i cs[i] v (List.getElem?_eq_getElem hi) hv (h1 i cs[i] u (List.getElem?_eq_getElem hi) hu)
  | tup cs cs' hl hh ih =>
    intro u h
    cases h with
    | tup _ us hl' h1 =>
      refine .tup cs' us (by omega) fun i v u hv hu => ?_
      have hi : i < cs.length := by have := (List.getElem?_eq_some_iff.1 hv).1; omega
      exact ih i cs[i] v (List.getElem?_eq_getElem hi) hv (h1 i cs[i] u (List.getElem?_eq_getElem hi) hu)

theorem VW.flag {e : Env} {n : Nat} {v v' : V} (h : VW n v v') {w : World} {u : Value} (hr : Rep w e v u) (hf : FlagOk e v u) : FlagOk (e.cutTo n) v' u := by
  cases h with
  | cls es rows c =>
    cases hr with
    | nil => trivial
    | nul => exact ⟨fun _ => rfl, fun k _ h4 => by rw [Nat.zero_mul] at h4; omega⟩
    | dat _ _ _ b o cap uu hes hcap ht h1 h2 =>
      have := ht rfl
      refine ⟨fun h0 => by rw [this, h0]; rfl, fun k h3 h4 => ?_⟩
      rw [this] at h4
      omega
  | nil es es' fl fl' hfl =>
    cases fl' with
    | no => cases hr <;> trivial
    | tight => cases hr <;> trivial
    | cls c =>
      cases hr with
      | nil => trivial
      | nul => exact ⟨fun _ => rfl, fun k _ h4 => by rw [Nat.zero_mul] at h4; omega⟩
      | dat _ _ _ b o cap uu hes hcap ht h1 h2 =>
        have hc : cap = 0 := by
          rcases hfl with h | h | h
          · exact ht h
          · cases h
          · rw [h] at hf; exact hf.1 rfl
        exact ⟨fun _ => hc, fun k h3 h4 => by rw [hc] at h4; omega⟩
  | dat es rows fl => exact hf
  | no es rows fl => cases hr <;> trivial
  | rows es rows rows' fl hl hr' hh => cases u <;> trivial
  | _ => trivial

theorem VW.repF {w : World} {e : Env} {n : Nat} (hn : n ≤ e.N) {v v' : V} (h : VW n v v') {u : Value} (hr : RepF w e v u) : RepF w (e.cutTo n) v' u :=
  ⟨h.rep hn hr.1, h.flag hr.1 hr.2⟩

/-- Lists of values, place by place. -/
inductive VWs (n : Nat) : List V → List V → Prop
  | nil : VWs n [] []
  | cons {x y : V} {xs ys : List V} (h : VW n x y) (hs : VWs n xs ys) : VWs n (x :: xs) (y :: ys)

theorem VWs.get {n : Nat} {xs ys : List V} (h : VWs n xs ys) : xs.length = ys.length ∧ ∀ (i : Nat) (x y : V), xs[i]? = some x → ys[i]? = some y → VW n x y := by
  induction h with
  | nil => exact ⟨rfl, fun i x y h => by simp at h⟩
  | cons h hs ih =>
    refine ⟨by simp [ih.1], fun i x y hx hy => ?_⟩
    cases i with
    | zero => simp at hx hy; subst hx; subst hy; exact h
    | succ i => exact ih.2 i x y (by simpa using hx) (by simpa using hy)

/-- A block that says less, or that is forgotten. -/
inductive BW (n : Nat) : Option Blk → Option Blk → Prop
  | drop (b : Option Blk) : BW n b none
  | cells (t : TypeId) (vs vs' : List V) (h : VWs n vs vs') : BW n (some (.cells t vs)) (some (.cells t vs'))
  | map (es es' : List (V × V)) (c : Nat) (h1 : VWs n (es.map (·.1)) (es'.map (·.1))) (h2 : VWs n (es.map (·.2)) (es'.map (·.2))) : BW n (some (.map es c)) (some (.map es' c))
  | defd : BW n (some .defd) (some .defd)
  | iter (m since stepped : Nat) (seen : List Nat) (hd : m < n) : BW n (some (.iter m since stepped seen)) (some (.iter m since stepped seen))
  | loop (st : LoopState) (pend : Option Code) (tmps tmps' : List V) (ps : Array Tmp) (a b : Code) (d : Nat) (h : VWs n tmps tmps') (hd : d < n) :
      BW n (some (.loop st pend tmps ps a b d)) (some (.loop st pend tmps' ps a b d))

inductive BWs (n : Nat) : Heap → Heap → Prop
  | nil (H : Heap) : BWs n H []
  | cons {x y : Option Blk} {xs ys : Heap} (h : BW n x y) (hs : BWs n xs ys) : BWs n (x :: xs) (y :: ys)

theorem BWs.get {n : Nat} {H H' : Heap} (h : BWs n H H') : H'.length ≤ H.length ∧ ∀ (i : Nat) (y : Option Blk), H'[i]? = some y → ∃ x, H[i]? = some x ∧ BW n x y := by
  induction h with
  | nil H => exact ⟨by simp, fun i y h => by simp at h⟩
  | cons h hs ih =>
    refine ⟨by simp [ih.1], fun i y hy => ?_⟩
    cases i with
    | zero => simp at hy; subst hy; exact ⟨_, rfl, h⟩
    | succ i => obtain ⟨x, hx, hb⟩ := ih.2 i y (by simpa using hy); exact ⟨x, by simpa using hx, hb⟩

theorem map_get {es : List (V × V)} {i : Nat} {x : V × V} (h : es[i]? = some x) : (es.map (·.1))[i]? = some x.1 ∧ (es.map (·.2))[i]? = some x.2 := by
  simp [h]

theorem BW.repBlk {w : World} {e : Env} {n r : Nat} (hn : n ≤ e.N) {b b' : Blk} (h : BW n (some b) (some b')) (hr : RepBlk w e r b) : RepBlk w (e.cutTo n) r b' := by
  cases h with
  | cells t vs vs' hv =>
    cases hr with
    | cells _ _ cs hb hl hh =>
      obtain ⟨h1, h2⟩ := hv.get
      refine .cells t vs' cs hb (by omega) fun i v u hv' hu => ?_
      have hi : i < vs.length := by have := (List.getElem?_eq_some_iff.1 hv').1; omega
      exact (h2 i vs[i] v (List.getElem?_eq_getElem hi) hv').repF hn (hh i vs[i] u (List.getElem?_eq_getElem hi) hu)
  | map es es' c h1 h2 =>
    cases hr with
    | map _ ms _ hb hl hk hh =>
      obtain ⟨g1, g2⟩ := h1.get
      obtain ⟨_, g4⟩ := h2.get
      simp only [List.length_map] at g1
      refine .map es' ms c hb (by omega) hk fun i x m hx hm => ?_
      have hi : i < es.length := by have := (List.getElem?_eq_some_iff.1 hx).1; omega
      obtain ⟨a1, a2⟩ := map_get hx
      obtain ⟨b1, b2⟩ := map_get (List.getElem?_eq_getElem hi)
      have := hh i es[i] m (List.getElem?_eq_getElem hi) hm
      exact ⟨(g2 i _ _ b1 a1).rep hn this.1, (g4 i _ _ b2 a2).rep hn this.2⟩
  | defd =>
    cases hr with
    | defd hb => exact .defd hb
  | iter k since stepped seen hd =>
    cases hr with
    | iter _ _ _ _ hb hd' => exact .iter k since stepped seen hb hd
  | loop st pend tmps tmps' ps a b d hv hd =>
    cases hr with
    | loop _ _ fn _ _ _ _ _ us hb hd' hl hh =>
      obtain ⟨h1, h2⟩ := hv.get
      refine .loop st pend fn tmps' ps a b d us hb hd (by omega) fun i v u hv' hu => ?_
      have hi : i < tmps.length := by have := (List.getElem?_eq_some_iff.1 hv').1; omega
      exact (h2 i tmps[i] v (List.getElem?_eq_getElem hi) hv').rep hn (hh i tmps[i] u (List.getElem?_eq_getElem hi) hu)

theorem RHeap.cutTo {H H' : Heap} {w : World} {e : Env} (hR : RHeap G H w e) (hb : BWs H'.length H H') : RHeap G H' w (e.cutTo H'.length) ∧ ∀ id, live H' id → live H id := by
  obtain ⟨hle, hget⟩ := hb.get
  have hlive : ∀ id, live H' id → live H id := by
    rintro id ⟨b', hb'⟩
    obtain ⟨x, hx, hbw⟩ := hget id _ hb'
    cases x with
    | none => cases hbw
    | some b => exact ⟨b, hx⟩
  have hn : H'.length ≤ e.N := by rw [hR.len]; exact hle
  refine ⟨⟨rfl, fun id b hb' => ?_, fun i j hi hj => hR.inj i j (hlive i hi) (hlive j hj), hR.ro, fun id o hl => hR.roOwn id o (hlive id hl), fun c b o h => ?_, hR.spd, fun g cs h => ?_⟩, hlive⟩
  · obtain ⟨x, hx, hbw⟩ := hget id _ hb'
    cases x with
    | none => cases hbw
    | some b0 => exact hbw.repBlk hn (hR.blk id b0 hx)
  · obtain ⟨h1, h2, h3, h4⟩ := hR.sp c b o h
    exact ⟨h1, h2, h3, fun id hl => h4 id (hlive id hl)⟩
  · exact (VW.rp cs).rep hn (hR.glob g cs h)

/-- A state that says less, shown place by place. -/
theorem Weak.mk' {σ : St} (vs' : List V) (H' : Heap) (ht : VWs H'.length σ.tmps vs') (hb : BWs H'.length σ.H H') (hd : ∀ id ∈ σ.defs, id < H'.length) (hc : ∀ id, σ.cur = some id → id < H'.length) :
    Weak G σ { σ with tmps := vs', H := H' } := by
  refine ⟨rfl, fun a w e h => ⟨e.cutTo H'.length, ?_, fun H0 w0 e0 hl hx => ?_⟩⟩
  · obtain ⟨hR, _⟩ := h.heap.cutTo hb
    have hn : H'.length ≤ e.N := by rw [h.heap.len]; exact hb.get.1
    obtain ⟨h1, h2⟩ := ht.get
    refine ⟨hR, ⟨by rw [← h1]; exact h.tmps.1, fun i v u hv hu => ?_⟩, h.defs, hd, hc⟩
    have hi : i < σ.tmps.length := by
      have : i < vs'.length := (List.getElem?_eq_some_iff.1 hv).1
      omega
    exact (h2 i σ.tmps[i] v (List.getElem?_eq_getElem hi) hv).repF hn (h.tmps.2 i σ.tmps[i] u (List.getElem?_eq_getElem hi) hu)
  · obtain ⟨_, hlive⟩ := h.heap.cutTo hb
    exact ⟨hx.os, hx.tape, hx.output, hx.size, hl, hx.ρ, fun id h1 h2 => hx.new id h1 (hlive id h2), fun id h1 h2 => hx.old id h1 (hlive id h2), hx.ro, hx.roNew, hx.spNew, hx.cell, hx.block⟩

/-! ### functions -/
def readV (P : Program) (σ : St) (k : V → Prop) : ResultVar → Prop
  | .tmp t => k (σ.tmps.getD t .bad)
  | .cell a t => evLoad P t σ k (σ.tmps.getD a .bad)

def readVs (P : Program) (σ : St) : List ResultVar → List V → (List V → Prop) → Prop
  | [], acc, k => k acc
  | r :: rs, acc, k => readV P σ (fun v => readVs P σ rs (acc ++ [v]) k) r

/-- What a function's end owes. -/
def retΦ (P : Program) (fn : Func) (Ψ : V → Heap → Prop) : Exit → St → Prop
  | .normal, σ | .ret, σ => (∀ id ∈ σ.defs, σ.H[id]? = some (some .defd)) ∧ σ.defs.Nodup ∧
      readVs P { σ with H := σ.defs.foldl (fun H id => H.set id none) σ.H, defs := [] } fn.results.toList [] fun vs => match vs with
        | [v] => Ψ v.strip (σ.defs.foldl (fun H id => H.set id none) σ.H)
        | vs => Ψ (.tup vs) (σ.defs.foldl (fun H id => H.set id none) σ.H)
  | _, _ => False

theorem run_resultV {σ : St} {a : Act} {w : World} {e : Env} (h : RSt G σ a w e) {r : ResultVar} {k : V → Prop} (hk : readV P σ k r) :
    ∃ u v, (match r with | .tmp t => pure (a.tmps.getD t undef) | .cell x t => do loadVar t (← asAddr (a.tmps.getD x undef)) : Sem Value).run P w = .ok u w ∧ k v ∧ RepF w e v u := by
  cases r with
  | tmp t => exact ⟨_, _, rfl, hk, h.ev (.tmp t)⟩
  | cell x t =>
    simp only [readV] at hk
    show ∃ u v, (do loadVar t (← asAddr (a.tmps.getD x undef)) : Sem Value).run P w = .ok u w ∧ k v ∧ RepF w e v u
    have hx : RepF w e (σ.tmps.getD x .bad) (a.tmps.getD x undef) := h.ev (.tmp x)
    generalize σ.tmps.getD x .bad = vx at hk hx
    generalize a.tmps.getD x undef = ux at hx ⊢
    obtain ⟨hx1, _⟩ := hx
    cases vx with
    | ptr id off =>
      simp only [evLoad] at hk
      split at hk
      · rename_i t' vs hH
        obtain ⟨rfl, hid⟩ := ptr_inv hx1
        obtain ⟨cs, hb, hl, hc, hr⟩ := blk_cel (h.heap.blk id _ hH)
        obtain ⟨u, v, hrun, hk, hv, hf⟩ := load_cells (F := FlagOk e) (us := fun j => cs.getD (off + j) undef) t (fun j v hj => by
          rw [List.getElem?_drop] at hj
          exact hc _ (Nat.lt_of_lt_of_le (List.getElem?_eq_some_iff.1 hj).1 hl)) (fun j v hj => by
          rw [List.getElem?_drop] at hj
          exact (hr _ v hj).1) (fun j v hj => by
          rw [List.getElem?_drop] at hj
          exact (hr _ v hj).2) hk
        refine ⟨u, v, ?_, hk, hv, hf (by simp [FlagOk])⟩
        simp only [asAddr, Sem.run_bind, Sem.run_pure, Result.andThen]
        exact hrun
      · exact hk.elim
    | rp cs =>
      simp only [evLoad] at hk
      cases hx1 with
      | rp _ b off us h1 h2 =>
        obtain ⟨u, v, hrun, hk, hv, _⟩ := load_cells (F := fun _ _ => True) t (fun j v hj => (h1 j v hj).1) (fun j v hj => (h2 j v hj).held) (fun _ _ _ => trivial) hk
        refine ⟨u, _, ?_, hk, hv.strip⟩
        simp only [asAddr, Sem.run_bind, Sem.run_pure, Result.andThen]
        exact hrun
    | _ => exact hk.elim

theorem run_resultVs {σ : St} {a : Act} {w : World} {e : Env} (h : RSt G σ a w e) (rs : List ResultVar) : ∀ (acc : List V) (us : List Value) (k : List V → Prop), Reps w e acc us → readVs P σ rs acc k →
    ∃ us' vs, (rs.mapM fun | .tmp t => pure (a.tmps.getD t undef) | .cell x t => do loadVar t (← asAddr (a.tmps.getD x undef)) : Sem (List Value)).run P w = .ok us' w ∧ k vs ∧ Reps w e vs (us ++ us') := by
  induction rs with
  | nil => intro acc us k hr hk; exact ⟨[], acc, rfl, hk, by simpa using hr⟩
  | cons r rs ih =>
    intro acc us k hr hk
    simp only [readVs] at hk
    obtain ⟨u, v, hrun, hk, hv⟩ := run_resultV h hk
    obtain ⟨us', vs, hrun', hk', hr'⟩ := ih (acc ++ [v]) (us ++ [u]) k ⟨by simp [hr.1], fun i x y hx hy => by
      by_cases hi : i < acc.length
      · rw [List.getElem?_append_left hi] at hx
        rw [List.getElem?_append_left (by rw [← hr.1]; exact hi)] at hy
        exact hr.2 i x y hx hy
      · rw [List.getElem?_append_right (by omega)] at hx
        rw [List.getElem?_append_right (by rw [← hr.1]; omega), ← hr.1] at hy
        obtain ⟨j, hj⟩ : ∃ j, i - acc.length = j := ⟨_, rfl⟩
        rw [hj] at hx hy
        cases j with
        | zero => simp at hx hy; subst hx; subst hy; exact hv
        | succ j => simp at hx⟩ hk
    refine ⟨u :: us', vs, ?_, hk', by simpa using hr'⟩
    rw [List.mapM_cons, Sem.run_bind, hrun]
    simp only [Result.andThen]
    rw [Sem.run_bind, hrun']
    rfl

theorem RSt.kill {σ : St} {a : Act} {w : World} {e : Env} (h : RSt G σ a w e) {id : Nat} (hid : σ.H[id]? = some (some .defd)) :
    RSt G { σ with H := σ.H.set id none } a (w.putObj (e.ρ id) (.deferred none)) e ∧ Ext σ.H w e (σ.H.set id none) (w.putObj (e.ρ id) (.deferred none)) e := by
  have hR := h.heap
  have hlt : id < σ.H.length := (List.getElem?_eq_some_iff.1 hid).1
  have hlive : live σ.H id := ⟨_, hid⟩
  have hr : e.ρ id < w.heap.size := hR.liveLt hlive
  have hblk : w.heap[e.ρ id]? = some (.deferred (some [])) := by
    have := hR.blk id _ hid
    cases this with
    | defd hb => exact hb
  have hother : ∀ r, r ≠ e.ρ id → (w.putObj (e.ρ id) (.deferred none)).heap[r]? = w.heap[r]? := fun r hr => World.putObj_heap_other hr
  have hcel : ∀ b o, cel (w.putObj (e.ρ id) (.deferred none)) b o = cel w b o ∧ fro (w.putObj (e.ρ id) (.deferred none)) b o = fro w b o := by
    intro b o
    unfold cel fro World.cell? World.frozen?
    by_cases hb : b = e.ρ id
    · subst hb
      rw [World.putObj_heap_same hr, hblk]
      exact ⟨rfl, rfl⟩
    · rw [hother b hb]
      exact ⟨rfl, rfl⟩
  have hl : ∀ j, live (σ.H.set id none) j → live σ.H j ∧ j ≠ id := by
    rintro j ⟨b, hb⟩
    by_cases hj : id = j
    · subst hj
      rw [List.getElem?_set_self hlt] at hb
      cases hb
    · rw [List.getElem?_set_ne hj] at hb
      exact ⟨⟨b, hb⟩, fun h => hj h.symm⟩
  have m : Mono w e (w.putObj (e.ρ id) (.deferred none)) e := ⟨Nat.le_refl _, fun _ _ => rfl, fun b o h => ⟨h, (hcel b o).1⟩, fun _ _ _ h => h⟩
  refine ⟨⟨⟨by simp [hR.len], fun j b hb => ?_, fun i j hi hj => hR.inj i j (hl i hi).1 (hl j hj).1, fun b o h => ?_, fun j o hj => hR.roOwn j o (hl j hj).1, fun c b o h => ?_, hR.spd, fun g cs hg => (hR.glob g cs hg).mono m⟩, h.tmps.mono m, h.defs, h.defsN, h.cur⟩,
    ⟨rfl, rfl, rfl, by simp, by simp, fun _ _ => rfl, fun j h1 h2 => ?_, fun j _ hj => (hl j hj).1, fun _ _ h => h, fun _ _ h => .inl h, fun c _ _ h => .inr ⟨c, h⟩, fun b o _ _ _ => hcel b o, fun b _ ho _ => hother b fun he => ho id hlive he.symm⟩⟩
  · obtain ⟨hj1, hj2⟩ := hl j ⟨b, hb⟩
    rw [List.getElem?_set_ne (fun h => hj2 h.symm)] at hb
    exact (hR.blk j b hb).mono m (hother _ fun he => hj2 (hR.inj j id hj1 hlive he))
  · rw [(hcel b o).1]; exact hR.ro b o h
  · obtain ⟨h1, h2, h3, h4⟩ := hR.sp c b o h
    exact ⟨by rw [(hcel b o).1]; exact h1, by rw [(hcel b o).2]; exact h2, h3, fun j hj => h4 j (hl j hj).1⟩
  · have := live_lt (hl j h2).1
    omega

theorem leaves {fn : Func} {a : Act} {R : Ending → World → Prop} (ds : List Nat) : ∀ (σ : St) (w : World) (e : Env), RSt G { σ with defs := [] } { a with defers := [] } w e → (∀ id ∈ ds, σ.H[id]? = some (some .defd)) → ds.Nodup →
    (∀ w' , RSt G { σ with H := ds.foldl (fun H id => H.set id none) σ.H, defs := [] } { a with defers := [] } w' e → Ext σ.H w e (ds.foldl (fun H id => H.set id none) σ.H) w' e →
      ∃ u, (results fn a.tmps).run P w' = .ok u w' ∧ R (.returned u) w') →
    LeavesInM Fence.wide 0 P fn a.tmps R (ds.map fun id => { target := .collected (e.ρ id), args := #[] }) .returning w := by
  induction ds with
  | nil =>
    intro σ w e h _ _ hR
    obtain ⟨u, hr, hu⟩ := hR w h (.refl _ _ _)
    exact ⟨u, hr, hu⟩
  | cons d ds ih =>
    intro σ w e h hd hnd hR
    refine ⟨by simp, .inl ⟨e.ρ d, w.putObj (e.ρ d) (.deferred none), rfl, ?_, ?_⟩⟩
    · have := h.heap.blk d _ (hd d (by simp))
      cases this with
      | defd hb => exact run_takeDeferred hb
    · obtain ⟨hk, hx⟩ := RSt.kill (σ := { σ with defs := [] }) h (hd d (by simp))
      refine ih { σ with H := σ.H.set d none } _ e hk (fun id hid => ?_) (List.nodup_cons.1 hnd).2 fun w' h' hx' => hR w' h' (hx.trans hx')
      have hne : d ≠ id := fun he => (List.nodup_cons.1 hnd).1 (he ▸ hid)
      show (σ.H.set d none)[id]? = _
      rw [List.getElem?_set_ne hne]
      exact hd id (by simp [hid])

theorem foldl_none_length (ds : List Nat) : ∀ H : Heap, (ds.foldl (fun H id => H.set id none) H).length = H.length := by
  induction ds with
  | nil => intro H; rfl
  | cons d ds ih => intro H; simp [ih]

theorem retΦ_leaves {fn : Func} {Ψ : V → Heap → Prop} {σ : St} {a : Act} {w : World} {e : Env} (h : RSt G σ a w e)
    (hk : (∀ id ∈ σ.defs, σ.H[id]? = some (some .defd)) ∧ σ.defs.Nodup ∧
      readVs P { σ with H := σ.defs.foldl (fun H id => H.set id none) σ.H, defs := [] } fn.results.toList [] fun vs => match vs with
        | [v] => Ψ v.strip (σ.defs.foldl (fun H id => H.set id none) σ.H)
        | vs => Ψ (.tup vs) (σ.defs.foldl (fun H id => H.set id none) σ.H)) {H0 : Heap} {w0 : World} {e0 : Env} (hx0 : Ext H0 w0 e0 σ.H w e) :
    LeavesInM Fence.wide 0 P fn a.tmps (fun en w' => ∃ v r H' e', en = .returned v ∧ Ψ r H' ∧ RHeap G H' w' e' ∧ RepF w' e' r v ∧ Ext H0 w0 e0 H' w' e') a.defers .returning w := by
  obtain ⟨h1, h2, h3⟩ := hk
  rw [h.defs]
  have h' : RSt G { σ with defs := [] } { a with defers := [] } w e := ⟨h.heap, h.tmps, rfl, fun id hid => by simp at hid, h.cur⟩
  refine leaves σ.defs σ w e h' h1 h2 fun w' hst hx => ?_
  obtain ⟨us', vs, hrun, hk, hr⟩ := run_resultVs (P := P) hst fn.results.toList [] [] _ ⟨rfl, fun i v u hv => by simp at hv⟩ h3
  simp only [List.nil_append] at hr
  have hres : (results fn a.tmps).run P w' = .ok (if h : us'.length = 1 then us'[0] else .tuple us'.toArray) w' := by
    unfold results
    rw [Sem.run_bind, Array.mapM_eq_mapM_toList, map_eq_pure_bind, Sem.run_bind]
    erw [hrun]
    simp [Result.andThen, Sem.run_pure]
  have hvl := hr.1
  match vs, hk, hr, hvl with
  | [v], hk, hr, hvl =>
    have h1 : us'.length = 1 := by simpa using hvl.symm
    rw [dif_pos h1] at hres
    exact ⟨_, hres, _, v.strip, _, e, rfl, hk, hst.heap, (hr.2 0 v _ rfl (by rw [List.getElem?_eq_getElem (by omega)])).1.strip, hx0.trans hx⟩
  | [], hk, hr, hvl =>
    have h1 : us'.length ≠ 1 := by simp at hvl; omega
    rw [dif_neg h1] at hres
    exact ⟨_, hres, _, .tup [], _, e, rfl, hk, hst.heap, ⟨.tup _ _ (by simpa using hvl) (fun i v u hv hu => by simp at hv), trivial⟩, hx0.trans hx⟩
  | v1 :: v2 :: vs, hk, hr, hvl =>
    have h1 : us'.length ≠ 1 := by simp at hvl; omega
    rw [dif_neg h1] at hres
    exact ⟨_, hres, _, .tup (v1 :: v2 :: vs), _, e, rfl, hk, hst.heap, ⟨.tup _ _ (by simpa using hvl) (fun i v u hv hu => (hr.2 i v u hv (by simpa using hu)).1), trivial⟩, hx0.trans hx⟩

/-- The state in which a function begins. -/
def begin_ (fn : Func) (args : List V) (H : Heap) : St := { tmps := args ++ List.replicate (fn.ntmps - args.length) (.tup []), H := H }

theorem reps_begin {w : World} {e : Env} {args : List V} {us : List Value} (h : Reps w e args us) (n : Nat) : Reps w e (args ++ List.replicate (n - args.length) (.tup [])) (us ++ List.replicate (n - us.length) undef) := by
  refine ⟨by simp [h.1], fun i v u hv hu => ?_⟩
  by_cases hi : i < args.length
  · rw [List.getElem?_append_left hi] at hv
    rw [List.getElem?_append_left (by rw [← h.1]; exact hi)] at hu
    exact h.2 i v u hv hu
  · rw [List.getElem?_append_right (by omega)] at hv
    rw [List.getElem?_append_right (by rw [← h.1]; omega)] at hu
    have hv' := List.eq_of_mem_replicate (List.mem_of_getElem? hv)
    have hu' := List.eq_of_mem_replicate (List.mem_of_getElem? hu)
    subst hv'; subst hu'
    exact ⟨.tup [] #[] rfl (fun i v u h => by simp at h), trivial⟩

/-- A function's contract, out of its body. -/
theorem stCall {f : FuncId} {fn : Func} {c : Code} {args : List V} {H : Heap} {Ψ : V → Heap → Prop} (hf : P.funcs[f]? = some fn) (hb : fn.body = some c)
    (hk : evCode P G c (retΦ P fn Ψ) (begin_ fn args H)) : StCall P G f args H Ψ := by
  intro w e us hR hargs
  refine callsIn_of_wp_marks hf hb trivial ?_ rfl
  have hst : RSt G (begin_ fn args H) { tmps := us.toArray ++ Array.replicate (fn.ntmps - us.toArray.size) undef, defers := [] } w e := by
    refine ⟨hR, ?_, rfl, fun id hid => by simp [begin_] at hid, fun id hid => by simp [begin_] at hid⟩
    have := reps_begin hargs fn.ntmps
    simpa [begin_] using this
  refine wpIn_mono (evCode_sound c _ _ hk _ w e hst) ?_
  rintro x a' w' ⟨σ', e', hΦ, hc, hst', hx⟩
  cases x with
  | normal => exact retΦ_leaves hst' hΦ hx
  | ret => exact retΦ_leaves hst' hΦ hx
  | _ => exact hΦ.elim

/-- What a contract says less of. -/
theorem StCall.mono {f : FuncId} {args : List V} {H : Heap} {Ψ Ψ' : V → Heap → Prop} (h : StCall P G f args H Ψ) (hm : ∀ r H', Ψ r H' → Ψ' r H') : StCall P G f args H Ψ' := by
  intro w e us hR hargs
  refine CallsIn.mono (h w e us hR hargs) ?_
  rintro en w' ⟨v, r, H', e', h1, h2, h3⟩
  exact ⟨v, r, H', e', h1, hm _ _ h2, h3⟩

/-- A value in which no block of the activation's own is named. -/
inductive V.Free : V → Prop
  | im (v : Value) : V.Free (.im v)
  | str (l : List UInt8) : V.Free (.str l)
  | dat (es : Nat) (rows : List (List V)) (fl : Fl) (h : ∀ c, fl ≠ .cls c) : V.Free (.dat es rows fl)
  | rp (cs : List V) : V.Free (.rp cs)
  | agg (cs : List V) (h : ∀ v ∈ cs, V.Free v) : V.Free (.agg cs)
  | tup (cs : List V) (h : ∀ v ∈ cs, V.Free v) : V.Free (.tup cs)
  | fn (f : Fn) (a b : List V) (ha : ∀ v ∈ a, V.Free v) (hb : ∀ v ∈ b, V.Free v) : V.Free (.fn f a b)
  | bad : V.Free .bad

theorem Rep.free {w : World} {e : Env} {v : V} (hv : v.Free) : ∀ {u : Value} (e' : Env), (∀ b o, e.RO b o → e'.RO b o) → Rep w e v u → Rep w e' v u := by
  induction hv with
  | im v => intro u e' _ h; cases h; exact .im _
  | str l => intro u e' _ h; cases h; exact .str _
  | bad => intro u e' _ _; exact .bad _
  | dat es rows fl _ =>
    intro u e' hro h
    cases h with
    | nil => exact .nil _ _
    | nul => exact .nul _ _ _
    | dat _ _ _ b o cap uu hes hcap ht h1 h2 =>
      exact .dat es rows fl b o cap uu hes hcap ht (fun i j v hv => ⟨(h1 i j v hv).1, hro _ _ (h1 i j v hv).2⟩)
        (fun i j v hv => (h2 i j v hv).mono' (e := e.pure) (e' := e'.pure) (Nat.le_refl 0) (fun _ h => absurd h (Nat.not_lt_zero _)) fun b o h => ⟨hro b o h, rfl⟩)
  | rp cs =>
    intro u e' hro h
    cases h with
    | rp _ b o uu h1 h2 =>
      exact .rp cs b o uu (fun j v hv => ⟨(h1 j v hv).1, hro _ _ (h1 j v hv).2⟩)
        (fun j v hv => (h2 j v hv).mono' (e := e.pure) (e' := e'.pure) (Nat.le_refl 0) (fun _ h => absurd h (Nat.not_lt_zero _)) fun b o h => ⟨hro b o h, rfl⟩)
  | agg cs hc ih =>
    intro u e' hro h
    cases h with
    | agg _ us hl h1 => exact .agg cs us hl fun i v u hv hu => ih v (List.mem_of_getElem? hv) e' hro (h1 i v u hv hu)
  | tup cs hc ih =>
    intro u e' hro h
    cases h with
    | tup _ us hl h1 => exact .tup cs us hl fun i v u hv hu => ih v (List.mem_of_getElem? hv) e' hro (h1 i v u hv hu)
  | fn f a b ha hb iha ihb =>
    intro u e' hro h
    cases h with
    | fn _ _ _ f' c' hl1 hl2 h1 h2 =>
      exact .fn f a b f' c' hl1 hl2 (fun i v u hv hu => iha v (List.mem_of_getElem? hv) e' hro (h1 i v u hv hu)) (fun i v u hv hu => ihb v (List.mem_of_getElem? hv) e' hro (h2 i v u hv hu))

theorem V.Free.flagOk {v : V} (h : v.Free) (e : Env) (u : Value) : FlagOk e v u := by
  cases h with
  | dat es rows fl h =>
    cases fl with
    | cls c => exact absurd rfl (h c)
    | no => trivial
    | tight => trivial
  | _ => trivial

/-- A function that is handed no block of the caller's is proved over the empty heap, and serves over every one. -/
theorem StCall.free {f : FuncId} {args : List V} {Ψ : V → Prop} (ha : ∀ v ∈ args, v.Free) (h : StCall P G f args [] fun r _ => r.Free ∧ Ψ r) (H : Heap) :
    StCall P G f args H fun r H' => H' = H ∧ Ψ r := by
  intro w e us hR hargs
  let e0 : Env := { N := 0, ρ := e.ρ, RO := e.RO, Sp := fun _ _ _ => False }
  have hR0 : RHeap G [] w e0 := ⟨rfl, fun id b hb => by simp at hb, fun i j ⟨b, hb⟩ => by simp at hb, hR.ro, fun id o ⟨b, hb⟩ => by simp at hb, fun c b o h => h.elim, fun _ _ _ _ h => h.elim,
    fun g cs hg => Rep.free (e := e) (.rp cs) e0 (fun _ _ h => h) (hR.glob g cs hg)⟩
  have hargs0 : Reps w e0 args us := ⟨hargs.1, fun i v u hv hu => ⟨Rep.free (e := e) (ha v (List.mem_of_getElem? hv)) e0 (fun _ _ h => h) (hargs.2 i v u hv hu).1, (ha v (List.mem_of_getElem? hv)).flagOk _ _⟩⟩
  refine CallsIn.mono (h w e0 us hR0 hargs0) ?_
  rintro en w' ⟨v, r, H', e', rfl, ⟨hfree, hΨ⟩, hR', hv, hx⟩
  have hnl : ∀ id, ¬ live ([] : Heap) id := fun id ⟨b, hb⟩ => by simp at hb
  have hblock : ∀ b, b < w.heap.size → w'.heap[b]? = w.heap[b]? := fun b hb => hx.block b hb (fun id hl => absurd hl (hnl id)) (fun c o h => h)
  have hcel : ∀ b o, b < w.heap.size → cel w' b o = cel w b o ∧ fro w' b o = fro w b o := by
    intro b o hb
    unfold cel fro World.cell? World.frozen?
    rw [hblock b hb]
    exact ⟨rfl, rfl⟩
  let e1 : Env := { N := e.N, ρ := e.ρ, RO := e'.RO, Sp := e.Sp }
  have m : Mono w e w' e1 := ⟨Nat.le_refl _, fun _ _ => rfl, fun b o h => ⟨hx.ro b o h, (hcel b o (lt_of_cel (hR.ro b o h))).1⟩, fun _ _ _ h => h⟩
  have hro : ∀ b o, e'.RO b o → e.RO b o ∨ w.heap.size ≤ b := by
    intro b o h
    rcases hx.roNew b o h with h | h | ⟨c, h⟩ | ⟨id, hl, _⟩
    · exact .inl h
    · exact .inr h
    · exact h.elim
    · exact absurd hl (hnl id)
  refine ⟨v, r, H, e1, rfl, ⟨rfl, hΨ⟩, ⟨hR.len, fun id b hb => (hR.blk id b hb).mono m (hblock _ (hR.blk id b hb).lt), hR.inj, hR'.ro, fun id o hl h => ?_, fun c b o h => ?_, hR.spd, fun g cs hg => (hR.glob g cs hg).mono m⟩,
    ⟨Rep.free (e := e') hfree e1 (fun _ _ h => h) hv.1, hfree.flagOk _ _⟩,
    ⟨hx.os, hx.tape, hx.output, hx.size, Nat.le_refl _, fun _ _ => rfl, fun id h1 h2 => ?_, fun _ _ h => h, hx.ro, fun b o h => ?_, fun c _ _ h => .inr ⟨c, h⟩, fun b o hb _ _ => hcel b o hb, fun b hb _ _ => hblock b hb⟩⟩
  · rcases hro _ _ h with h | h
    · exact hR.roOwn id o hl h
    · have := hR.liveLt hl
      change w.heap.size ≤ e.ρ id at h
      omega
  · obtain ⟨h1, h2, h3, h4⟩ := hR.sp c b o h
    have hlt := lt_of_cel h1
    refine ⟨by rw [(hcel b o hlt).1]; exact h1, by rw [(hcel b o hlt).2]; exact h2, fun h5 => ?_, h4⟩
    rcases hro _ _ h5 with h | h
    · exact h3 h
    · omega
  · have := live_lt h2
    omega
  · rcases hro _ _ h with h | h
    · exact .inl h
    · exact .inr (.inl h)

end Go.Abs

/-! Sound11 -/
/- Rounds; ranges over functions. -/
namespace Go.Abs
open Go.RowKit

variable {P : Program} {G : Nat → Option (List V)}

theorem strip_demote (p : Nat → Bool) (v : V) : (V.demote p v).strip = v.strip := by
  cases v with
  | dat es rows fl => cases fl with
    | cls c => by_cases h : p c = true <;> simp [V.demote, V.strip, h]
    | _ => rfl
  | _ => rfl

theorem Reps.set {w : World} {e : Env} {vs : List V} {us : Array Value} (h : Reps w e vs us.toList) (p : Nat) {v : V} {u : Value} (hv : RepF w e v u) : Reps w e (vs.set p v) (us.setIfInBounds p u).toList := by
  refine ⟨by simpa using h.1, fun i x y hx hy => ?_⟩
  rw [Array.toList_setIfInBounds] at hy
  rw [List.getElem?_set] at hx hy
  by_cases hp : p = i
  · subst hp
    rw [if_pos rfl] at hx hy
    split at hx
    · split at hy
      · cases hx; cases hy; exact hv
      · cases hy
    · cases hx
  · rw [if_neg hp] at hx hy
    exact h.2 i x y hx hy

/-- Parameters get their values. -/
def setParams : List Tmp → List V → List V → List V
  | p :: ps, a :: as, ts => setParams ps as (ts.set p a)
  | _, _, ts => ts

theorem reps_params {w : World} {e : Env} (ps : List Tmp) : ∀ (as : List V) (us : List Value) (ts : List V) (xs : Array Value), Reps w e as us → Reps w e ts xs.toList →
    Reps w e (setParams ps as ts) ((ps.zip us).foldl (fun tmps (x : Tmp × Value) => tmps.setIfInBounds x.1 x.2) xs).toList := by
  induction ps with
  | nil => intro as us ts xs h1 h2; cases as <;> exact h2
  | cons p ps ih =>
    intro as us ts xs h1 h2
    cases as with
    | nil =>
      cases us with
      | nil => exact h2
      | cons u us => have := h1.1; simp at this
    | cons a as =>
      cases us with
      | nil => have := h1.1; simp at this
      | cons u us =>
        exact ih as us _ _ ⟨by have := h1.1; simpa using this, fun i x y hx hy => h1.2 (i + 1) x y (by simpa using hx) (by simpa using hy)⟩ (h2.set p (h1.2 0 a u rfl rfl))

theorem RepBlk.loopInv {w : World} {e : Env} {r : Nat} {st : LoopState} {pend : Option Code} {tmps : List V} {ps : Array Tmp} {as bd : Code} {d : Nat} (h : RepBlk w e r (.loop st pend tmps ps as bd d)) :
    ∃ fn us, w.heap[r]? = some (.loop { state := st, pending := pend, fn, tmps := us, params := ps, assign := as, body := bd, defers := e.ρ d }) ∧ d < e.N ∧ tmps.length = us.size ∧
      (∀ (i : Nat) (v : V) (u : Value), tmps[i]? = some v → us[i]? = some u → Rep w e v u) := by
  cases h with
  | loop _ _ fn _ _ _ _ _ us hb hd hl hh => exact ⟨fn, us, hb, hd, hl, hh⟩

/-- The record changes its state. -/
theorem RHeap.setLoop {H : Heap} {w : World} {e : Env} (hR : RHeap G H w e) {id : Nat} {st : LoopState} {pend : Option Code} {tmps : List V} {ps : Array Tmp} {as bd : Code} {d : Nat}
    (hid : H[id]? = some (some (.loop st pend tmps ps as bd d))) (st' : LoopState) (pend' : Option Code) (fn : FuncId) (us : Array Value)
    (_hb : w.heap[e.ρ id]? = some (.loop { state := st, pending := pend, fn, tmps := us, params := ps, assign := as, body := bd, defers := e.ρ d }))
    (hd : d < e.N) (hl : tmps.length = us.size) (hh : ∀ (i : Nat) (v : V) (u : Value), tmps[i]? = some v → us[i]? = some u → Rep w e v u) :
    let w' := w.putObj (e.ρ id) (.loop { state := st', pending := pend', fn, tmps := us, params := ps, assign := as, body := bd, defers := e.ρ d })
    Mono w e w' e ∧ RHeap G (H.set id (some (.loop st' pend' tmps ps as bd d))) w' e ∧ Ext H w e (H.set id (some (.loop st' pend' tmps ps as bd d))) w' e := by
  have hlive : live H id := ⟨_, hid⟩
  refine hR.setBlk hlive _ (fun r hr => World.putObj_heap_other hr) World.putObj_size ⟨rfl, rfl, rfl⟩ fun m => ?_
  exact .loop st' pend' fn tmps ps as bd d us (World.putObj_heap_same (hR.liveLt hlive)) hd hl fun i v u hv hu => (hh i v u hv hu).mono m

/-- What a round's end owes. -/
def roundΦ (id : Nat) (Ψ : V → Heap → Prop) (x : Exit) (σ : St) : Prop :=
  match σ.H[id]? with
  | some (some (.loop _ _ tmps ps as bd d)) => match x with
    | .normal => Ψ (.bool true) (σ.H.set id (some (.loop .ready none tmps ps as bd d)))
    | .ret => Ψ (.bool false) (σ.H.set id (some (.loop .done (some .ret) tmps ps as bd d)))
    | .exit i => Ψ (.bool false) (σ.H.set id (some (.loop .done (some (.exit i)) tmps ps as bd d)))
    | .goto l => Ψ (.bool false) (σ.H.set id (some (.loop .done (some (.goto l)) tmps ps as bd d)))
    | _ => False
  | _ => False

theorem round_end {w0 : World} {e0 : Env} {H0 : Heap} {id : Nat} {Ψ : V → Heap → Prop} {x : Exit} {σ : St} {a : Act} {w : World} {e : Env} (h : RSt G σ a w e) (hx : Ext H0 w0 e0 σ.H w e) (hid : e.ρ id = e0.ρ id)
    (hk : roundΦ id Ψ x σ) :
    roundPost P (e0.ρ id) (fun en w' => ∃ v r H' e', en = .returned v ∧ Ψ r H' ∧ RHeap G H' w' e' ∧ RepF w' e' r v ∧ Ext H0 w0 e0 H' w' e') x a w := by
  unfold roundΦ at hk
  split at hk
  · rename_i st pend tmps ps as bd d hH
    obtain ⟨fn, us, hb, hd, hl, hh⟩ := (h.heap.blk id _ hH).loopInv
    rw [← hid]
    have fin : ∀ (jump : Option Code) (st' : LoopState), st' = (if jump.isNone then .ready else .done) →
        Ψ (.bool jump.isNone) (σ.H.set id (some (.loop st' jump tmps ps as bd d))) →
        ∃ v w', (Instr.endRound (e.ρ id) jump).run P w = .ok v w' ∧ ∃ v' r H' e', Ending.returned v = .returned v' ∧ Ψ r H' ∧ RHeap G H' w' e' ∧ RepF w' e' r v' ∧ Ext H0 w0 e0 H' w' e' := by
      intro jump st' hst hΨ
      subst hst
      obtain ⟨m, hR', hx'⟩ := h.heap.setLoop hH (if jump.isNone then .ready else .done) jump fn us hb hd hl hh
      exact ⟨_, _, run_endRound jump hb, _, _, _, e, rfl, hΨ, hR', repF_im _ _ _, hx.trans hx'⟩
    cases x with
    | normal => exact fin none .ready rfl hk
    | ret => exact fin (some .ret) .done rfl hk
    | exit i => exact fin (some (.exit i)) .done rfl hk
    | goto l => exact fin (some (.goto l)) .done rfl hk
    | panic c => exact hk.elim
    | outgrown => exact hk.elim
  · exact hk.elim

theorem WPc.mono {c : Code} {Φ Φ' : Exit → St → Prop} {σ : St} (h : WPc P G c Φ σ) (hm : ∀ x σ', Φ x σ' → Φ' x σ') : WPc P G c Φ' σ := fun a w e hst =>
  wpIn_mono (h a w e hst) fun _ _ _ ⟨σ', e', h1, h2⟩ => ⟨σ', e', hm _ _ h1, h2⟩

/-- A round, out of the loop's record. -/
theorem stYield {id : Nat} {pend : Option Code} {tmps : List V} {ps : Array Tmp} {as bd : Code} {d : Nat} {args : List V} {H : Heap} {Ψ : V → Heap → Prop}
    (hid : H[id]? = some (some (.loop .ready pend tmps ps as bd d))) (hs : args.length = ps.size)
    (hk : WPc P G as (fun x σ1 => x = .normal ∧ σ1.H[id]? = some (some (.loop .ready pend tmps ps as bd d)) ∧
        WPc P G bd (roundΦ id Ψ) { σ1 with H := σ1.H.set id (some (.loop .busy pend tmps ps as bd d)) })
      { tmps := setParams ps.toList args (tmps.map V.strip), H := H, defs := [], cur := some id }) : StYield P G id args H Ψ := by
  intro w e us hR hargs
  obtain ⟨fn, us0, hb, hd, hl, hh⟩ := (hR.blk id _ hid).loopInv
  refine ⟨_, _, _, _, _, _, _, rfl, run_yield hb (by simpa using hargs.1.symm.trans hs), rfl, ?_⟩
  refine roundIn_of_wpIn trivial ?_
  have hN : id < e.N := by rw [hR.len]; exact (List.getElem?_eq_some_iff.1 hid).1
  have ht : Reps w e (setParams ps.toList args (tmps.map V.strip)) ((ps.zip us.toArray).foldl (fun tmps (x : Tmp × Value) => tmps.setIfInBounds x.1 x.2) us0).toList := by
    have := reps_params ps.toList args us (tmps.map V.strip) us0 hargs ⟨by simpa using hl, fun i v u hv hu => by
      rw [List.getElem?_map] at hv
      obtain ⟨v', hv', rfl⟩ := Option.map_eq_some_iff.1 hv
      exact (hh i v' u hv' (by simpa using hu)).strip⟩
    rw [← Array.foldl_toList]
    simpa using this
  have hst : RSt G { tmps := setParams ps.toList args (tmps.map V.strip), H := H, defs := [], cur := some id } { tmps := (ps.zip us.toArray).foldl (fun tmps (x : Tmp × Value) => tmps.setIfInBounds x.1 x.2) us0, defers := [] } w e :=
    ⟨hR, ht, rfl, fun i hi => by simp at hi, fun i hi => by simp at hi; omega⟩
  refine wpIn_mono (hk _ w e hst) ?_
  rintro x a1 w1 ⟨σ1, e1, ⟨rfl, hH1, hk1⟩, hc1, hst1, hx1⟩
  obtain ⟨fn1, us1, hb1, hd1, hl1, hh1⟩ := (hst1.heap.blk id _ hH1).loopInv
  have hρ : e1.ρ id = e.ρ id := hx1.ρ id (by rw [← hR.len]; exact hN)
  obtain ⟨m, hR2, hx2⟩ := hst1.heap.setLoop hH1 .busy pend fn1 us1 hb1 hd1 hl1 hh1
  refine ⟨_, run_beginRound (by rw [← hρ]; exact hb1) rfl, ?_⟩
  rw [← hρ]
  have hst2 := hst1.setBlk m hR2
  have := hk1 a1 _ e1 hst2
  simp only [hc1, Option.map_some] at this
  refine wpIn_mono this ?_
  rintro x a3 w3 ⟨σ3, e3, hΦ, hc3, hst3, hx3⟩
  have hρ3 : e3.ρ id = e.ρ id := by
    refine Eq.trans (hx3.ρ id ?_) hρ
    have := live_lt ⟨_, hH1⟩
    simpa using this
  rw [hρ]
  exact round_end hst3 ((hx1.trans hx2).trans hx3) hρ3 hΦ

theorem RHeap.forget {H : Heap} {w : World} {e : Env} (hR : RHeap G H w e) (id : Nat) : RHeap G (H.set id none) w e ∧ ∀ j, live (H.set id none) j → live H j := by
  have hl : ∀ j, live (H.set id none) j → live H j ∧ (H.set id none)[j]? = H[j]? := by
    rintro j ⟨b, hb⟩
    by_cases hj : id = j
    · subst hj
      rw [List.getElem?_set] at hb
      simp at hb
    · rw [List.getElem?_set_ne hj] at hb ⊢
      exact ⟨⟨b, hb⟩, rfl⟩
  refine ⟨⟨by simp [hR.len], fun j b hb => ?_, fun i j hi hj => hR.inj i j (hl i hi).1 (hl j hj).1, hR.ro, fun j o hj => hR.roOwn j o (hl j hj).1, fun c b o h => ?_, hR.spd, hR.glob⟩, fun j hj => (hl j hj).1⟩
  · have := (hl j ⟨b, hb⟩).2
    rw [this] at hb
    exact hR.blk j b hb
  · obtain ⟨h1, h2, h3, h4⟩ := hR.sp c b o h
    exact ⟨h1, h2, h3, fun j hj => h4 j (hl j hj).1⟩

theorem Ext.forget {H0 H : Heap} {w0 w : World} {e0 e : Env} (hx : Ext H0 w0 e0 H w e) (id : Nat) (hl : ∀ j, live (H.set id none) j → live H j) : Ext H0 w0 e0 (H.set id none) w e :=
  ⟨hx.os, hx.tape, hx.output, hx.size, by simpa using hx.len, hx.ρ, fun j h1 h2 => hx.new j h1 (hl j h2), fun j h1 h2 => hx.old j h1 (hl j h2), hx.ro, hx.roNew, hx.spNew, hx.cell, hx.block⟩

/-- Behind a range over a function: the record has been given up, the pending jump is taken. -/
def rangeΦ (P : Program) (G : Nat → Option (List V)) (id : Nat) (σ : St) (ds : List Nat) (Φ : Exit → St → Prop) (H2 : Heap) : Prop :=
  match H2[id]? with
  | some (some (.loop st pend _ _ _ _ _)) => st ≠ .busy ∧ match pend with
    | none => Φ .normal { σ with tmps := σ.tmps.map V.strip, H := H2.set id none, defs := ds }
    | some c => evCode P G c Φ { σ with tmps := σ.tmps.map V.strip, H := H2.set id none, defs := ds }
  | _ => False

/-- A range over a function, at no other one. -/
theorem wpc_rangeFunc {f : Operand} {ps : Array Tmp} {as bd : Code} {Φ : Exit → St → Prop} {σ : St} {g : FuncId} {fn : Func} {first caps : List V}
    (hcur : σ.cur = none) (hf : σ.ev f = .fn (.func g) first caps) (hfn : P.funcs[g]? = some fn) (hbody : fn.body.isSome) (hname : (fn.name == "runtime.NumGoroutine") = false)
    (hk : StCall P G g ((first ++ [V.yld (σ.H.length + 1)] ++ caps).map V.strip) (σ.H ++ [some .defd] ++ [some (.loop .ready none (σ.tmps.map V.strip) ps as bd σ.H.length)])
      fun _ H2 => rangeΦ P G (σ.H.length + 1) σ (σ.H.length :: σ.defs) Φ H2) : WPc P G (.rangeFunc f ps as bd) Φ σ := by
  intro a w e h
  rw [hcur]
  refine wpIn_rangeFunc fun fn0 _ => ?_
  have hN := h.heap.len
  -- the two blocks
  let o1 : Obj := .deferred (some [])
  have hst1 := h.push o1 .defd (.defd (World.alloc_heap_new w o1))
  have hx1 := (h.heap.push o1 .defd (.defd (World.alloc_heap_new w o1))).2
  let w1 := w.alloc o1
  let e1 := e.push w.heap.size
  have hρ1 : e1.ρ σ.H.length = w.heap.size := by rw [← hN]; exact e.push_new _
  let o2 : Obj := .loop { state := .ready, pending := none, fn := fn0, tmps := a.tmps, params := ps, assign := as, body := bd, defers := w.heap.size }
  have hN1 : e1.N = σ.H.length + 1 := by show e.N + 1 = _; omega
  have hb2 : RepBlk (w1.alloc o2) (e1.push w1.heap.size) w1.heap.size (.loop .ready none (σ.tmps.map V.strip) ps as bd σ.H.length) := by
    have m2 : Mono w1 e1 (w1.alloc o2) (e1.push w1.heap.size) := Mono.push hst1.heap o2 _
    refine .loop .ready none fn0 _ ps as bd σ.H.length a.tmps ?_ ?_ ?_ fun i v u hv hu => ?_
    · rw [World.alloc_heap_new w1 o2, e1.push_old _ (by omega), hρ1]
    · show σ.H.length < e1.N + 1
      omega
    · have := h.tmps.1
      simpa using this
    · rw [List.getElem?_map] at hv
      obtain ⟨v', hv', rfl⟩ := Option.map_eq_some_iff.1 hv
      exact ((hst1.tmps.2 i v' u hv' (by simpa using hu)).1.mono m2).strip.1
  have hst2 := hst1.push o2 _ hb2
  have hx2 := (hst1.heap.push o2 _ hb2).2
  let w2 := w1.alloc o2
  let e2 := e1.push w1.heap.size
  have hρ2 : e2.ρ (σ.H.length + 1) = w.heap.size + 1 := by
    have : e2.ρ e1.N = w1.heap.size := e1.push_new _
    rw [hN1] at this
    rw [this]
    simp [w1]
  have hfv := hst2.ev f
  have hev : ({ { σ with H := σ.H ++ [some Blk.defd] } with H := σ.H ++ [some Blk.defd] ++ [some (Blk.loop .ready none (σ.tmps.map V.strip) ps as bd σ.H.length)] } : St).ev f = .fn (.func g) first caps := by
    cases f <;> exact hf
  rw [hev] at hfv
  generalize huf : a.eval f = uf at hfv
  obtain ⟨hf1, _⟩ := hfv
  cases hf1 with
  | fn _ _ _ first' caps' hl1 hl2 hr1 hr2 =>
    refine ⟨w.heap.size + 1, _, w2, ⟨.fn (.func g) caps', first' ++ #[.func (.yield (w.heap.size + 1)) #[] #[]]⟩, w2, g, (first' ++ #[.func (.yield (w.heap.size + 1)) #[] #[]]) ++ caps', w2, run_enterLoop_outer fn0 a.tmps ps as bd, ?_, fun _ _ => trivial, ?_, fun hh => by simp [FW, Fence.wide] at hh, ?_⟩
    · simp only [resolve, huf]
      simp [Deferred.ofValue, Act.eval]
    · simp only [invoke, callFunc, program, Sem.run_bind, Result.andThen]
      simp only [Sem.run, hfn, hname, Bool.false_eq_true, if_false]
      rw [if_neg (by rw [Option.isNone_iff_eq_none]; exact Option.isSome_iff_ne_none.1 hbody)]
      rfl
    · have hall : Reps w2 (e2.hide (heapCls (σ.H ++ [some Blk.defd] ++ [some (Blk.loop .ready none (σ.tmps.map V.strip) ps as bd σ.H.length)]))) ((first ++ [V.yld (σ.H.length + 1)] ++ caps).map V.strip) ((first' ++ #[Value.func (.yield (w.heap.size + 1)) #[] #[]]) ++ caps').toList := by
        refine ⟨by simp [hl1, hl2], fun i v u hv hu => ?_⟩
        rw [List.getElem?_map] at hv
        obtain ⟨v', hv', rfl⟩ := Option.map_eq_some_iff.1 hv
        have hrep : Rep w2 e2 v' u := by
          simp only [Array.toList_append, List.append_assoc] at hu hv'
          by_cases hi : i < first.length
          · rw [List.getElem?_append_left hi] at hv'
            rw [List.getElem?_append_left (by simpa [← hl1] using hi)] at hu
            exact hr1 i v' u hv' (by simpa using hu)
          · rw [List.getElem?_append_right (by omega)] at hv'
            rw [List.getElem?_append_right (by simp [← hl1]; omega)] at hu
            simp only [Array.length_toList, ← hl1] at hu
            obtain ⟨j, hj⟩ : ∃ j, i - first.length = j := ⟨_, rfl⟩
            rw [hj] at hv' hu
            cases j with
            | zero =>
              simp at hv' hu
              subst hv'; subst hu
              rw [← hρ2]
              refine .yld _ ?_
              show σ.H.length + 1 < e1.N + 1
              omega
            | succ j => exact hr2 j v' u (by simpa using hv') (by simpa using hu)
        exact (hrep.hide _).strip
      refine CallsIn.mono (F := Fence.wide) (hk w2 _ _ hst2.heap.hide hall) ?_
      rintro en w' ⟨v, r, H', e', rfl, hΦ, hR', hv, hx⟩
      have hst3 := hst2.after hR' hx
      obtain ⟨_, _, hx3⟩ := unhide_ok hst2.heap hR' hx
      let e3 := e'.unhide e2 (heapCls (σ.H ++ [some Blk.defd] ++ [some (Blk.loop .ready none (σ.tmps.map V.strip) ps as bd σ.H.length)]))
      unfold rangeΦ at hΦ
      split at hΦ
      · rename_i st pend tmps' ps' as' bd' d' hH
        obtain ⟨hbusy, hΦ⟩ := hΦ
        obtain ⟨fn1, us1, hb1, hd1, hl1', hh1⟩ := (hst3.heap.blk _ _ hH).loopInv
        have hρ3 : e3.ρ (σ.H.length + 1) = w.heap.size + 1 := by rw [← hρ2]; exact hx3.ρ _ (by simp)
        have hρ3' : e3.ρ σ.H.length = w.heap.size := by
          rw [hx3.ρ _ (by simp)]
          show e2.ρ _ = _
          rw [e1.push_old _ (by omega), hρ1]
        obtain ⟨m4, hR4, hx4⟩ := hst3.heap.setLoop hH .exhausted pend fn1 us1 hb1 hd1 hl1' hh1
        obtain ⟨hR5, hl5⟩ := hR4.forget (σ.H.length + 1)
        have hx5 := hx4.forget (σ.H.length + 1) hl5
        have hset : ∀ b : Option Blk, (H'.set (σ.H.length + 1) b).set (σ.H.length + 1) none = H'.set (σ.H.length + 1) none := fun b => List.set_set ..
        have hN5 := hR5.len
        have hend := run_endLoop (P := P) hb1 hbusy
        rw [hρ3] at hend
        refine ⟨_, _, hend, ?_⟩
        have ht : Reps w' e3 (σ.tmps.map V.strip) a.tmps.toList := by
          have := hst3.tmps.strip
          simp only [St.afterCall, List.map_map] at this
          refine (List.map_congr_left fun v _ => ?_) ▸ this
          exact strip_demote _ v
        have hst5 : RSt G { σ with tmps := σ.tmps.map V.strip, H := H'.set (σ.H.length + 1) none, defs := σ.H.length :: σ.defs } { a with defers := [{ target := .collected w.heap.size, args := #[] }] ++ a.defers }
            (w'.putObj (e3.ρ (σ.H.length + 1)) (.loop { state := .exhausted, pending := pend, fn := fn1, tmps := us1, params := ps', assign := as', body := bd', defers := e3.ρ d' })) e3 := by
          refine ⟨by rw [← hset]; exact hR5, ht.mono m4, ?_, ?_, fun id hid => by rw [hcur] at hid; cases hid⟩
          · have := hst3.defs
            simp only [St.afterCall] at this
            rw [this]
            simp only [List.map_cons, List.singleton_append]
            rw [hρ3']
          · intro id hid
            simp only [List.mem_cons] at hid
            have h1 : e3.N = H'.length := by
              have := hst3.heap.len
              exact this
            have h2 := hx3.len
            simp at h2
            rcases hid with rfl | hid
            · omega
            · have := h.defsN id hid
              omega
        have hxall : Ext σ.H w e (H'.set (σ.H.length + 1) none) (w'.putObj (e3.ρ (σ.H.length + 1)) (.loop { state := .exhausted, pending := pend, fn := fn1, tmps := us1, params := ps', assign := as', body := bd', defers := e3.ρ d' })) e3 := by
          rw [← hset]
          exact ((hx1.trans hx2).trans hx3).trans hx5
        rw [← hρ3]
        cases pend with
        | none => exact ⟨_, e3, hΦ, hcur.symm ▸ hcur, hst5, hxall⟩
        | some c =>
          have := evCode_sound c _ _ hΦ _ _ _ hst5
          simp only [hcur] at this
          refine wpIn_mono this ?_
          rintro x a6 w6 ⟨σ6, e6, hΦ6, hc6, hst6, hx6⟩
          exact ⟨σ6, e6, hΦ6, hc6, hst6, hxall.trans hx6⟩
      · exact hΦ.elim
end Go.Abs

/-! Sound12 -/
/- Regions that draw their order: quiet operations in any order, the others behind them. -/
set_option linter.unusedVariables false
namespace Go.Abs
open Go.RowKit

variable {P : Program} {G : Nat → Option (List V)}

/-! ### one value each -/
/-- A condition that asks for one value. -/
def Det (R : (V → Prop) → Prop) : Prop := ∀ K, R K → ∃ u, K u ∧ ∀ K' : V → Prop, K' u → R K'

theorem det_id (v : V) : Det fun K => K v := fun _ h => ⟨v, h, fun _ h => h⟩
theorem det_false : Det fun _ => False := fun _ h => False.elim h
theorem det_and {p : Prop} {R : (V → Prop) → Prop} (h : Det R) : Det fun K => p ∧ R K := fun _ ⟨hp, hK⟩ =>
  let ⟨u, h1, h2⟩ := h _ hK
  ⟨u, h1, fun K' hk => ⟨hp, h2 K' hk⟩⟩
theorem det_map {R : (V → Prop) → Prop} (f : V → V) (h : Det R) : Det fun K => R fun v => K (f v) := fun K hK =>
  let ⟨u, h1, h2⟩ := h _ hK
  ⟨f u, h1, fun _ hk => h2 _ hk⟩
theorem det_ite (b : Bool) (x y : V) : Det fun K => (b = true → K x) ∧ (b = false → K y) := by
  intro K hK
  cases b with
  | true => exact ⟨x, hK.1 rfl, fun K' hk => ⟨fun _ => hk, fun h => Bool.noConfusion h⟩⟩
  | false => exact ⟨y, hK.2 rfl, fun K' hk => ⟨fun h => Bool.noConfusion h, fun _ => hk⟩⟩
theorem det_ex {α : Type} {p : α → Prop} {F : α → V} : Det fun K => ∃ a, p a ∧ K (F a) := fun _ ⟨a, h1, h2⟩ => ⟨F a, h2, fun _ hk => ⟨a, h1, hk⟩⟩

theorem det_loadCells (t : TypeId) (vs : List V) : Det fun K => evLoadCells P t vs K := by
  unfold evLoadCells
  cases tk P t with
  | none => exact det_false
  | some x =>
    obtain ⟨b, n⟩ := x
    cases b with
    | true => exact det_and (det_id _)
    | false => cases vs with
      | nil => exact det_false
      | cons v vs => exact det_id _

theorem det_load (t : TypeId) (σ : St) (x : V) : Det fun K => evLoad P t σ K x := by
  cases x with
  | ptr id off =>
    simp only [evLoad]
    split
    · exact det_loadCells _ _
    · exact det_false
  | rp cs => exact det_map V.strip (det_loadCells _ _)
  | _ => exact det_false

theorem det_int (op : BinOp) (k : IntKind) (a b : Int) : Det fun K => evInt op k a b K := by
  unfold evInt
  cases op <;> first
    | exact det_id _
    | exact det_and (det_id _)
    | exact det_false

theorem det_str (op : BinOp) (a b : List UInt8) : Det fun K => evStr op a b K := by
  unfold evStr
  cases op <;> first
    | exact det_id _
    | exact det_and (det_id _)
    | exact det_false

theorem det_bin (op : BinOp) (t : TypeId) (x y : V) : Det fun K => evBin P op t x y K := by
  unfold evBin
  split
  · split
    · exact det_and (det_id _)
    · exact det_and (det_id _)
    · exact det_and (det_int _ _ _ _)
  · refine det_and ?_
    split
    · exact det_id _
    · exact det_id _
    · exact det_false
  · exact det_str _ _ _
  · refine det_and ?_
    split
    · refine det_and ?_
      split
      · exact det_id _
      · exact det_id _
      · exact det_false
    · exact det_false
  · exact det_false

theorem det_un (op : UnOp) (x : V) : Det fun K => evUn op x K := by
  unfold evUn
  split
  · exact det_id _
  · exact det_id _
  · exact det_false

theorem det_field (t : TypeId) (f : Nat) (x : V) : Det fun K => evField P t f K x := by
  unfold evField
  split
  · split
    · exact det_map V.strip (det_loadCells _ _)
    · exact det_false
  · exact det_false

theorem det_fieldAddr (t : TypeId) (f : Nat) (x : V) : Det fun K => evFieldAddr P t f K x := by
  unfold evFieldAddr
  split
  · split
    · refine det_and ?_
      split
      · exact det_id _
      · exact det_id _
      · exact det_false
    · exact det_false
  · exact det_false

theorem det_index (t : TypeId) (x i : V) : Det fun K => evIndex P t x i K := by
  unfold evIndex
  split
  · split
    · exact det_and (det_and (det_map V.strip (det_loadCells _ _)))
    · exact det_false
  · exact det_and (det_and (fun _ ⟨b, h1, h2⟩ => ⟨_, h2, fun _ hk => ⟨b, h1, hk⟩⟩))
  · exact det_false

theorem det_indexAddr (t : TypeId) (x i : V) : Det fun K => evIndexAddr P t x i K := by
  unfold evIndexAddr
  split
  · split
    · split
      · exact det_and (det_and (det_and (fun _ ⟨b, h1, h2⟩ => ⟨_, h2, fun _ hk => ⟨b, h1, hk⟩⟩)))
      · exact det_and (det_and (det_and (det_id _)))
      · exact det_false
    · split
      · exact det_and (det_and (det_id _))
      · exact det_and (det_and (det_id _))
      · exact det_false
    · exact det_false
  · exact det_false

theorem det_find (k : V) (F : Option (Nat × V) → V) : ∀ (es : List (V × V)) (i : Nat), Det fun K => evFind k (fun r => K (F r)) es i
  | [], _ => det_id _
  | e :: es, i => by
    unfold evFind
    split
    · rename_i b hb
      intro K hK
      cases b with
      | true => exact ⟨_, hK.1 rfl, fun K' hk => ⟨fun _ => hk, fun h => Bool.noConfusion h⟩⟩
      | false =>
        obtain ⟨u, h1, h2⟩ := det_find k F es (i + 1) K (hK.2 rfl)
        exact ⟨u, h1, fun K' hk => ⟨fun h => Bool.noConfusion h, fun _ => h2 K' hk⟩⟩
    · exact det_false

theorem det_lookup (t : TypeId) (key : V) (ok : Bool) (σ : St) (x : V) : Det fun K => evLookup P t key ok σ K x := by
  cases x with
  | mp id =>
    simp only [evLookup]
    split
    · split
      · rename_i z hz
        have h1 := det_find key (fun r => match ok with
          | true => match r with
            | none => .tup [z, .bool false]
            | some (_, v) => .tup [v, .bool true]
          | false => match r with
            | none => z.strip
            | some (_, v) => v.strip)
        cases ok with
        | true =>
          refine det_and ?_
          have := h1 ‹_› 0
          refine fun K hK => ?_
          obtain ⟨u, g1, g2⟩ := this K (by
            refine (congrArg (fun f => evFind key f _ 0) (funext fun r => ?_)).mp hK
            cases r <;> rfl)
          refine ⟨u, g1, fun K' hk => (congrArg (fun f => evFind key f _ 0) (funext fun r => ?_)).mp (g2 K' hk)⟩
          cases r <;> rfl
        | false =>
          refine det_and ?_
          have := h1 ‹_› 0
          refine fun K hK => ?_
          obtain ⟨u, g1, g2⟩ := this K (by
            refine (congrArg (fun f => evFind key f _ 0) (funext fun r => ?_)).mp hK
            cases r <;> rfl)
          refine ⟨u, g1, fun K' hk => (congrArg (fun f => evFind key f _ 0) (funext fun r => ?_)).mp (g2 K' hk)⟩
          cases r <;> rfl
      · exact det_false
    · exact det_false
  | _ => exact det_false

theorem det_build (t : TypeId) (parts : List (Nat × V)) : Det fun K => evBuild P t parts K := by
  unfold evBuild
  split
  · split
    · exact det_id _
    · exact det_false
  · exact det_false

theorem det_buildSlice (t : TypeId) (n : Nat) (parts : List (Nat × V)) : Det fun K => evBuildSlice P t n parts K := by
  unfold evBuildSlice
  split
  · split
    · refine det_and (det_and (det_and ?_))
      split
      · exact det_and (det_id _)
      · exact det_false
    · exact det_false
  · exact det_false

theorem det_len (t : TypeId) (x : V) : Det fun K => evLen P t x K := by
  unfold evLen
  split
  · exact det_and (det_id _)
  · exact det_and (det_id _)
  · exact det_and (det_id _)
  · exact det_false

theorem byteRows_inj : ∀ {l l' : List UInt8}, byteRows l = byteRows l' → l = l'
  | [], [], _ => rfl
  | [], _ :: _, h => by cases h
  | _ :: _, [], h => by cases h
  | b :: l, b' :: l', h => by
    simp only [byteRows, List.map_cons, List.cons.injEq, V.im.injEq, Value.int.injEq, true_and, and_true] at h
    have hb : b = b' := UInt8.toNat_inj.1 (by omega)
    rw [hb, byteRows_inj h.2]

theorem det_slice (t : TypeId) (x : V) (lo hi : Option V) : Det fun K => evSlice P t x lo hi K := by
  unfold evSlice
  split
  · split
    · exact det_and (det_and (det_id _))
    · exact det_false
  · split
    · exact det_and (det_id _)
    · exact det_false
  · split
    · exact det_and (det_and (det_id _))
    · exact det_false
  · exact det_false

theorem u8V_inj : ∀ {l l' : List UInt8}, (l.map fun b => V.int .u8 (b.toNat : Int)) = l'.map (fun b => V.int .u8 (b.toNat : Int)) → l = l'
  | [], [], _ => rfl
  | [], _ :: _, h => by cases h
  | _ :: _, [], h => by cases h
  | b :: l, b' :: l', h => by
    simp only [List.map_cons, List.cons.injEq, V.im.injEq, Value.int.injEq, true_and] at h
    have hb : b = b' := UInt8.toNat_inj.1 (by omega)
    rw [hb, u8V_inj h.2]

theorem det_convert (src dst : TypeId) (H : Heap) (x : V) : Det fun K => evConvert P src dst H x K := by
  unfold evConvert
  split
  · split
    · exact det_and (det_and fun K ⟨l, h1, h2⟩ => ⟨_, h2, fun K' hk => ⟨l, h1, hk⟩⟩)
    · exact det_false
  · exact det_id _
  · exact det_id _
  · exact det_and (det_and fun K ⟨l, h1, h2⟩ => ⟨_, h2, fun K' hk => ⟨l, h1, hk⟩⟩)
  · exact det_false

theorem det_builtin (b : Builtin) (hb : b = .len ∨ b = .min ∨ b = .max) (ts : List TypeId) (dst : Option Tmp) (as : List V) :
    ∃ R : (V → Prop) → Prop, Det R ∧ ∀ (σ : St) (K : V → Prop), R K ↔ evBuiltin P b ts dst as σ fun v τ => τ = σ ∧ K v := by
  rcases hb with rfl | rfl | rfl
  · match as, ts with
    | [x], [t] => exact ⟨fun K => evLen P t x K, det_len _ _, fun σ K => by simp [evBuiltin]⟩
    | [], _ => exact ⟨fun _ => False, det_false, fun σ K => by simp [evBuiltin]⟩
    | _ :: _ :: _, _ => exact ⟨fun _ => False, det_false, fun σ K => by simp [evBuiltin]⟩
    | [_], [] => exact ⟨fun _ => False, det_false, fun σ K => by simp [evBuiltin]⟩
    | [_], _ :: _ :: _ => exact ⟨fun _ => False, det_false, fun σ K => by simp [evBuiltin]⟩
  · by_cases h : ∃ k a k' b, as = [V.im (.int k a), V.im (.int k' b)]
    · obtain ⟨k, a, k', b, rfl⟩ := h
      exact ⟨fun K => k = k' ∧ K (.int k (if b < a then b else a)), det_and (det_id _), fun σ K => by simp [evBuiltin]⟩
    · refine ⟨fun _ => False, det_false, fun σ K => ⟨fun h => h.elim, fun hk => ?_⟩⟩
      unfold evBuiltin at hk
      split at hk <;> first | contradiction | exact h ⟨_, _, _, _, rfl⟩ | exact hk
  · by_cases h : ∃ k a k' b, as = [V.im (.int k a), V.im (.int k' b)]
    · obtain ⟨k, a, k', b, rfl⟩ := h
      exact ⟨fun K => k = k' ∧ K (.int k (if b > a then b else a)), det_and (det_id _), fun σ K => by simp [evBuiltin]⟩
    · refine ⟨fun _ => False, det_false, fun σ K => ⟨fun h => h.elim, fun hk => ?_⟩⟩
      unfold evBuiltin at hk
      split at hk <;> first | contradiction | exact h ⟨_, _, _, _, rfl⟩ | exact hk

/-! ### quiet operations -/
/-- Operations that leave all blocks as they are. -/
def quiet : Op → Bool
  | .binOp _ _ _ y _ => !isNilC y
  | .slice _ _ _ _ none => true
  | .move _ | .assign _ | .load .. | .nilCheck _ | .unOp .. | .makeFunc .. | .fieldAddr .. | .field .. | .index .. | .indexAddr .. | .pick .. | .extract .. | .build .. | .buildSlice .. | .convert .. | .lookup .. => true
  | .call c => match c.callee with
    | .builtin .len | .builtin .min | .builtin .max => true
    | _ => false
  | _ => false

/-- append to a slice that has no spare places: a new one. -/
def evAppT (P : Program) (t t' : TypeId) (d : Nat) (x y : V) (K : V → Prop) : Prop :=
  match slOf P t with
  | some (el, s, bytes) => match x, y with
    | .dat es rows .tight, .dat es' ys _ =>
      notInt P t' = true ∧ 1 ≤ s ∧ ((zeroOf P el).map List.length) = some s ∧ (rows = [] ∨ es = s) ∧ (ys = [] ∨ es' = s) ∧ (∀ r ∈ ys, r.all V.solid = true) ∧
      (rows.length + ys.length) * bytes ≤ maxBytes ∧ rows.length + ys.length ≤ maxBytes ∧ K (.dat s (rows ++ ys) (.cls d))
    | _, _ => False
  | none => False

theorem evAppT_ex {t t' : TypeId} {d : Nat} {x y : V} {K : V → Prop} (h : evAppT P t t' d x y K) : ∃ u, K u ∧ ∀ K' : V → Prop, K' u → evAppT P t t' d x y K' := by
  unfold evAppT at h
  split at h
  · rename_i el s bytes hs
    split at h
    · rename_i es rows es' ys fl
      obtain ⟨h1, h2, h3, h4, h5, h6, h7, h8, h9⟩ := h
      refine ⟨_, h9, fun K' hk => ?_⟩
      unfold evAppT
      simp only [hs]
      exact ⟨h1, h2, h3, h4, h5, h6, h7, h8, hk⟩
    · exact h.elim
  · exact h.elim

theorem evAppT_app {t t' : TypeId} {d : Nat} {x y : V} {K : V → Prop} {σ : St} {k : V → St → Prop} (h : evAppT P t t' d x y K) (hk : ∀ v, K v → k v σ) : evAppend P t t' d x y σ k := by
  unfold evAppT at h
  unfold evAppend
  split at h
  · rename_i el s bytes hs
    simp only [hs]
    split at h
    · rename_i es rows es' ys fl
      obtain ⟨h1, h2, h3, h4, h5, h6, h7, h8, h9⟩ := h
      refine ⟨h1, h2, h3, h4, h5, h6, h7, h8, ?_⟩
      cases fl with
      | tight => exact hk _ h9
      | no => exact .inl (hk _ h9)
      | cls c => exact .inl (hk _ h9)
    · exact h.elim
  · exact h.elim

def evQ (P : Program) (G : Nat → Option (List V)) (o : Oper) (σ : St) (K : V → Prop) : Prop :=
  match o.op with
  | .call { callee := .value f, args, .. } => match σ.ev f with
    | .fn (.func g) a b => (∃ fn, P.funcs[g]? = some fn ∧ fn.body.isSome ∧ (fn.name == "runtime.NumGoroutine") = false) ∧
        ∃ u, (∀ X, (∀ k, heapCls X k = false) → StCall P G g ((a ++ (args.toList.map σ.ev) ++ b).map V.strip) (σ.H ++ X) (fun r H' => H' = σ.H ++ X ∧ r = u)) ∧ K u
    | _ => False
  | .call { callee := .builtin .append, args, argTypes } => match args.toList, argTypes.toList with
    | [x, y], [t, t'] => evAppT P t t' (o.dst.getD 0) (σ.ev x) (σ.ev y) K
    | _, _ => False
  | op => quiet op = true ∧ evOp P G o σ fun v τ => τ = σ ∧ K v

/-- Operations that look at no block. -/
def heapFree : Op → Bool
  | .binOp _ _ _ y _ => !isNilC y
  | .slice _ _ _ _ none => true
  | .move _ | .assign _ | .unOp .. | .makeFunc .. | .fieldAddr .. | .field .. | .index .. | .indexAddr .. | .pick .. | .extract .. | .nilCheck _ | .build .. | .buildSlice .. => true
  | .call c => match c.callee with
    | .builtin .len | .builtin .min | .builtin .max | .builtin .append => true
    | _ => false
  | _ => false

/-- The same blocks, and maybe more behind. -/
def PreH (H H' : Heap) : Prop := ∃ X, (∀ k, heapCls X k = false) ∧ H' = H ++ X
theorem PreH.rfl' {H : Heap} : PreH H H := ⟨[], fun _ => rfl, by simp⟩
theorem PreH.get {H H' : Heap} (h : PreH H H') {id : Nat} {b : Option Blk} (hb : H[id]? = some b) : H'[id]? = some b := by
  obtain ⟨X, _, rfl⟩ := h
  rw [List.getElem?_append_left (List.getElem?_eq_some_iff.1 hb).1]; exact hb

theorem evLoad_pre {t : TypeId} {σ σ' : St} {K : V → Prop} {x : V} (hp : PreH σ.H σ'.H) (h : evLoad P t σ K x) : evLoad P t σ' K x := by
  cases x with
  | ptr id off =>
    simp only [evLoad] at h ⊢
    split at h
    · rename_i hH
      simp only [hp.get hH]
      exact h
    · exact h.elim
  | _ => exact h

theorem evConvert_pre {src dst : TypeId} {H H' : Heap} {K : V → Prop} {x : V} (hp : PreH H H') (h : evConvert P src dst H x K) : evConvert P src dst H' x K := by
  unfold evConvert at h ⊢
  split at h
  · rename_i h1 h2
    try simp only [h1, h2]
    split at h
    · rename_i hH
      simp only [hp.get hH] at h ⊢
      exact h
    · exact h.elim
  · rename_i h1 h2
    try simp only [h1, h2]
    exact h
  · rename_i h1 h2
    try simp only [h1]
    exact h
  · rename_i h1 h2
    try simp only [h1, h2]
    exact h
  · exact h.elim

theorem evLookup_pre {t : TypeId} {key : V} {ok : Bool} {σ σ' : St} {K : V → Prop} {x : V} (hp : PreH σ.H σ'.H) (h : evLookup P t key ok σ K x) : evLookup P t key ok σ' K x := by
  cases x with
  | mp id =>
    simp only [evLookup] at h ⊢
    split at h
    · rename_i hH hm
      simp only [hp.get hH, hm]
      exact h
    · exact h.elim
  | _ => exact h

/-- The same operands, the same blocks. -/
def Agree (o : Oper) (σ σ' : St) : Prop := (heapFree o.op = true ∨ PreH σ.H σ'.H) ∧ ∀ x ∈ o.op.operands, σ'.ev x = σ.ev x

theorem evQ_quiet {o : Oper} {σ : St} (hq : quiet o.op = true) (K : V → Prop) (h : evOp P G o σ fun v τ => τ = σ ∧ K v) :
    ∃ u, K u ∧ ∀ σ', Agree o σ σ' → ∀ K' : V → Prop, K' u → evOp P G o σ' fun v τ => τ = σ' ∧ K' v := by
  have one : ∀ (R : (V → Prop) → Prop), Det R → (evOp P G o σ (fun v τ => τ = σ ∧ K v) → R K) → (∀ σ', Agree o σ σ' → ∀ K' : V → Prop, R K' → evOp P G o σ' fun v τ => τ = σ' ∧ K' v) →
      ∃ u, K u ∧ ∀ σ', Agree o σ σ' → ∀ K' : V → Prop, K' u → evOp P G o σ' fun v τ => τ = σ' ∧ K' v := by
    intro R hR h1 h2
    obtain ⟨u, h3, h4⟩ := hR K (h1 h)
    exact ⟨u, h3, fun σ' ha K' hk => h2 σ' ha K' (h4 K' hk)⟩
  unfold evOp at *
  cases ho : o.op with
  | move x =>
    simp only [ho, true_and] at h one ⊢
    refine one (fun K => K (σ.ev x)) (det_id _) (fun h => h) fun σ' ha K' hk => ?_
    rw [ha.2 x (by simp [ho, Op.operands])]; exact hk
  | assign x =>
    simp only [ho, true_and] at h one ⊢
    refine one (fun K => K (σ.ev x)) (det_id _) (fun h => h) fun σ' ha K' hk => ?_
    rw [ha.2 x (by simp [ho, Op.operands])]; exact hk
  | load t x =>
    simp only [ho, true_and] at h one ⊢
    refine one (fun K => evLoad P t σ K (asRp G (σ.ev x))) (det_load t σ (asRp G (σ.ev x))) (fun h => h) fun σ' ha K' hk => ?_
    rw [ha.2 x (by simp [ho, Op.operands])]
    exact evLoad_pre (ha.1.resolve_left (by rw [ho]; simp [heapFree])) hk
  | nilCheck x =>
    simp only [ho, true_and] at h one ⊢
    refine one (fun K => match σ.ev x with | .ptr id off => K (.ptr id off) | .rp cs => K (.rp cs) | .fn (.func f) a b => K (.fn (.func f) a b) | .yld id => K (.yld id) | _ => False) ?_ (fun h => h) fun σ' ha K' hk => ?_
    · split
      · exact det_id _
      · exact det_id _
      · exact det_id _
      · exact det_id _
      · exact det_false
    · rw [ha.2 x (by simp [ho, Op.operands])]
      exact hk
  | binOp op t x y t' =>
    have hn : isNilC y = false := by
      rw [ho] at hq
      simpa [quiet] using hq
    simp only [ho, hn, true_and] at h one ⊢
    refine one (fun K => evBin P op t (σ.ev x) (σ.ev y) K) (det_bin op t (σ.ev x) (σ.ev y)) (fun h => h) fun σ' ha K' hk => ?_
    rw [ha.2 x (by simp [ho, Op.operands]), ha.2 y (by simp [ho, Op.operands])]
    exact hk
  | unOp op t x =>
    simp only [ho, true_and] at h one ⊢
    refine one (fun K => evUn op (σ.ev x) K) (det_un op (σ.ev x)) (fun h => h) fun σ' ha K' hk => ?_
    rw [ha.2 x (by simp [ho, Op.operands])]
    exact hk
  | convert src dst x =>
    simp only [ho, true_and] at h one ⊢
    refine one (fun K => evConvert P src dst σ.H (σ.ev x) K) (det_convert src dst σ.H (σ.ev x)) (fun h => h) fun σ' ha K' hk => ?_
    rw [ha.2 x (by simp [ho, Op.operands])]
    exact evConvert_pre (ha.1.resolve_left (by rw [ho]; simp [heapFree])) hk
  | slice t x lo hi mx =>
    cases mx with
    | some r => rw [ho] at hq; cases hq
    | none =>
      simp only [ho, true_and] at h one ⊢
      refine one (fun K => evSlice P t (asRp G (σ.ev x)) (lo.map σ.ev) (hi.map σ.ev) K) (det_slice t _ _ _) (fun h => h) fun σ' ha K' hk => ?_
      have h1 : lo.map σ'.ev = lo.map σ.ev := by
        cases lo with
        | none => rfl
        | some p => simp only [Option.map_some]; rw [ha.2 p (by simp [ho, Op.operands])]
      have h2 : hi.map σ'.ev = hi.map σ.ev := by
        cases hi with
        | none => rfl
        | some p => simp only [Option.map_some]; rw [ha.2 p (by simp [ho, Op.operands])]
      rw [ha.2 x (by simp [ho, Op.operands]), h1, h2]
      exact hk
  | makeFunc fn a b =>
    simp only [ho, true_and] at h one ⊢
    refine one (fun K => K (V.fn fn (a.toList.map σ.ev) (b.toList.map σ.ev))) (det_id _) (fun h => h) fun σ' ha K' hk => ?_
    rw [List.map_congr_left (fun x hx => ha.2 x (by simp only [ho, Op.operands]; exact Array.mem_append_left _ (Array.mem_toList_iff.1 hx))),
      List.map_congr_left (fun x hx => ha.2 x (by simp only [ho, Op.operands]; exact Array.mem_append_right _ (Array.mem_toList_iff.1 hx)))]
    exact hk
  | fieldAddr t x f =>
    simp only [ho, true_and] at h one ⊢
    refine one (fun K => evFieldAddr P t f K (asRp G (σ.ev x))) (det_fieldAddr t f (asRp G (σ.ev x))) (fun h => h) fun σ' ha K' hk => ?_
    rw [ha.2 x (by simp [ho, Op.operands])]
    exact hk
  | field t x f =>
    simp only [ho, true_and] at h one ⊢
    refine one (fun K => evField P t f K (σ.ev x)) (det_field t f (σ.ev x)) (fun h => h) fun σ' ha K' hk => ?_
    rw [ha.2 x (by simp [ho, Op.operands])]
    exact hk
  | index t x i =>
    simp only [ho, true_and] at h one ⊢
    refine one (fun K => evIndex P t (σ.ev x) (σ.ev i) K) (det_index t (σ.ev x) (σ.ev i)) (fun h => h) fun σ' ha K' hk => ?_
    rw [ha.2 x (by simp [ho, Op.operands]), ha.2 i (by simp [ho, Op.operands])]
    exact hk
  | indexAddr t x i =>
    simp only [ho, true_and] at h one ⊢
    refine one (fun K => evIndexAddr P t (asRp G (σ.ev x)) (σ.ev i) K) (det_indexAddr t (asRp G (σ.ev x)) (σ.ev i)) (fun h => h) fun σ' ha K' hk => ?_
    rw [ha.2 x (by simp [ho, Op.operands]), ha.2 i (by simp [ho, Op.operands])]
    exact hk
  | lookup t x i ok =>
    simp only [ho, true_and] at h one ⊢
    refine one (fun K => evLookup P t (σ.ev i) ok σ K (σ.ev x)) (det_lookup t (σ.ev i) ok σ (σ.ev x)) (fun h => h) fun σ' ha K' hk => ?_
    rw [ha.2 x (by simp [ho, Op.operands]), ha.2 i (by simp [ho, Op.operands])]
    exact evLookup_pre (ha.1.resolve_left (by rw [ho]; simp [heapFree])) hk
  | pick c x y =>
    simp only [ho, true_and] at h one ⊢
    refine one (fun K => match σ.ev c with | .im (.bool t) => (t = true → K (σ.ev x)) ∧ (t = false → K (σ.ev y)) | _ => False) ?_ (fun h => h) fun σ' ha K' hk => ?_
    · split
      · exact det_ite _ _ _
      · exact det_false
    · rw [ha.2 c (by simp [ho, Op.operands]), ha.2 x (by simp [ho, Op.operands]), ha.2 y (by simp [ho, Op.operands])]
      exact hk
  | extract x i =>
    simp only [ho, true_and] at h one ⊢
    refine one (fun K => match σ.ev x with | .tup vs => (match vs[i]? with | some v => K v.strip | none => False) | _ => False) ?_ (fun h => h) fun σ' ha K' hk => ?_
    · split
      · split
        · exact det_id _
        · exact det_false
      · exact det_false
    · rw [ha.2 x (by simp [ho, Op.operands])]
      exact hk
  | build t parts =>
    simp only [ho, true_and] at h one ⊢
    refine one (fun K => evBuild P t (parts.toList.map fun (i, x) => (i, σ.ev x)) K) (det_build t _) (fun h => h) fun σ' ha K' hk => ?_
    rw [List.map_congr_left (g := fun (i, x) => (i, σ.ev x)) (fun p hp => by
      rw [ha.2 p.2 (by
        simp only [ho, Op.operands]
        exact List.mem_toArray.2 (List.mem_map.2 ⟨p, hp, rfl⟩))])]
    exact hk
  | buildSlice t n parts =>
    simp only [ho, true_and] at h one ⊢
    refine one (fun K => evBuildSlice P t n (parts.toList.map fun (i, x) => (i, σ.ev x)) K) (det_buildSlice t n _) (fun h => h) fun σ' ha K' hk => ?_
    rw [List.map_congr_left (g := fun (i, x) => (i, σ.ev x)) (fun p hp => by
      rw [ha.2 p.2 (by
        simp only [ho, Op.operands]
        exact List.mem_toArray.2 (List.mem_map.2 ⟨p, hp, rfl⟩))])]
    exact hk
  | call c =>
    obtain ⟨callee, args, ts⟩ := c
    have hmap : ∀ σ', Agree o σ σ' → args.toList.map σ'.ev = args.toList.map σ.ev := fun σ' ha => List.map_congr_left fun x hx => ha.2 x (by
      simp only [ho, Op.operands, Call.operands]
      cases callee <;> simp [Array.mem_toList_iff.1 hx])
    rw [ho] at hq
    cases callee with
    | builtin b =>
      simp only [ho] at h one ⊢
      have hb : b = .len ∨ b = .min ∨ b = .max := by
        cases b <;> simp [quiet] at hq <;> simp
      obtain ⟨R, hR, hiff⟩ := det_builtin (P := P) b hb ts.toList o.dst (args.toList.map σ.ev)
      refine one R hR ((hiff σ K).2) fun σ' ha K' hk => ?_
      rw [hmap σ' ha]
      exact (hiff σ' K').1 hk
    | _ => simp [quiet] at hq
  | _ => rw [ho] at hq; simp [quiet] at hq

end Go.Abs

/-! Sound13 -/
/- Regions that draw their order: the walk. -/
namespace Go.Abs
open Go.RowKit

variable {P : Program} {G : Nat → Option (List V)}

theorem OpWp.mono {ro : Option Nat} {o : Oper} {σ : St} {a : Act} {w : World} {e : Env} {k k' : V → St → Prop} (h : OpWp P G ro o σ a w e k) (hm : ∀ v τ, k v τ → k' v τ) : OpWp P G ro o σ a w e k' :=
  fun next Q hn => h next Q fun u w' v σ' e' hk => hn u w' v σ' e' (hm _ _ hk)

/-- Is it a call of a function? -/
def isVCall (o : Oper) : Bool := match o.op with
  | .call c => match c.callee with
    | .value _ => true
    | _ => false
  | _ => false

/-- The classes of which a region that draws its order lets nobody know: those that a call may use up. -/
def dq (all : List Oper) (H : Heap) : Nat → Bool := match all.any isVCall with
  | true => heapCls H
  | false => fun _ => false

theorem dq_call {all : List Oper} {H : Heap} {o : Oper} (h : o ∈ all) (hc : isVCall o = true) : dq all H = heapCls H := by
  unfold dq
  rw [List.any_eq_true.2 ⟨o, h, hc⟩]

theorem evQ_ex {o : Oper} {σ : St} {K : V → Prop} (h : evQ P G o σ K) :
    ∃ u, K u ∧ ∀ σ', Agree o σ σ' → ∀ ro a w e, RSt G σ' a w e → OpWp P G ro o σ' a w e fun v τ => (τ = σ' ∨ (isVCall o = true ∧ τ = σ'.afterCall σ'.H)) ∧ v = u := by
  unfold evQ at h
  split at h
  · rename_i f args ts ho
    split at h
    · rename_i g a b hf
      obtain ⟨hfn, u, hcall, hK⟩ := h
      refine ⟨u, hK, fun σ' ha ro act w e hst => evOp_sound hst ?_⟩
      have hev : σ'.ev f = .fn (.func g) a b := by rw [ha.2 f (by simp [ho, Op.operands, Call.operands]), hf]
      have hargs : args.toList.map σ'.ev = args.toList.map σ.ev := List.map_congr_left fun x hx => ha.2 x (by simp [ho, Op.operands, Call.operands, Array.mem_toList_iff.1 hx])
      simp only [evOp, ho, hev]
      refine ⟨hfn, ?_⟩
      obtain ⟨X, hX, hH⟩ := ha.1.resolve_left (by rw [ho]; simp [heapFree])
      rw [hargs, hH]
      exact (hcall X hX).mono fun r H' ⟨h1, h2⟩ => ⟨.inr ⟨by unfold isVCall; rw [ho], by rw [h1]⟩, h2⟩
    · exact h.elim
  · rename_i args ts ho
    split at h
    · rename_i x y t t' ha ht
      obtain ⟨u, hK, hu⟩ := evAppT_ex h
      refine ⟨u, hK, fun σ' hag ro act w e hst => evOp_sound hst ?_⟩
      have hx : σ'.ev x = σ.ev x := hag.2 x (by simp [ho, Op.operands, Call.operands, ← Array.mem_toList_iff, ha])
      have hy : σ'.ev y = σ.ev y := hag.2 y (by simp [ho, Op.operands, Call.operands, ← Array.mem_toList_iff, ha])
      simp only [evOp, ho, ha, ht, List.map_cons, List.map_nil, evBuiltin, hx, hy]
      exact evAppT_app (hu (· = u) rfl) fun v hv => ⟨.inl rfl, hv⟩
    · exact h.elim
  · obtain ⟨hq, h⟩ := h
    obtain ⟨u, h1, h2⟩ := evQ_quiet hq K h
    refine ⟨u, h1, fun σ' ha ro a w e hst => (evOp_sound hst (h2 σ' ha (· = u) rfl)).mono fun v τ ⟨h3, h4⟩ => ⟨.inl h3, h4⟩⟩

/-! ### guards -/
def Want (all : List Oper) (o : Oper) (σ : St) (b : Bool) : Prop :=
  match o.guard with
  | none => b = true
  | some (j, want) => (∃ c, yieldedV all σ j = some (.im (.bool c)) ∧ b = (c == want)) ∨ (yieldedV all σ j = some (.tup []) ∧ b = false)

theorem want_run {all : List Oper} {o : Oper} {σ : St} {b : Bool} {a : Act} {w : World} {e : Env} (h : RSt G σ a w e) (hw : Want all o σ b) : Region.wanted o (yielded all.toArray a.tmps) = b := by
  unfold Want at hw
  split at hw
  · rename_i hg
    rw [wanted_none hg, hw]
  · rename_i j want hg
    have hw' : Region.wanted o (yielded all.toArray a.tmps) = (yielded all.toArray a.tmps j == some want) := by simp [Region.wanted, hg]
    have hy : ∀ v, yieldedV all σ j = some v → ∃ u, ((all.toArray[j]?).bind (·.dst)).bind (a.tmps[·]?) = some u ∧ Rep w e v u := by
      intro v hv
      unfold yieldedV at hv
      simp only [List.getElem?_toArray]
      split at hv
      · rename_i d hdst
        rw [hdst]
        have hlt : d < σ.tmps.length := (List.getElem?_eq_some_iff.1 hv).1
        have hlt' : d < a.tmps.size := Nat.lt_of_lt_of_eq hlt (h.tmps.1.trans Array.length_toList)
        exact ⟨a.tmps[d], by simp [hlt'], (h.tmps.2 d v _ hv (by simp [hlt'])).1⟩
      · cases hv
    rw [hw']
    rcases hw with ⟨c, hv, rfl⟩ | ⟨hv, rfl⟩
    · obtain ⟨u, hu, hr⟩ := hy _ hv
      have hub : u = .bool c := by cases hr; rfl
      have : yielded all.toArray a.tmps j = some c := by unfold yielded; rw [hu, hub]
      rw [this]
      rfl
    · obtain ⟨u, hu, hr⟩ := hy _ hv
      have : yielded all.toArray a.tmps j = none := by
        unfold yielded
        rw [hu]
        cases hr
        rfl
      rw [this]
      rfl

/-- One operation that is not the first: its step. -/
theorem evOps_step {ro : Option Nat} {all rest : List Oper} {o : Oper} {i : Nat} {σ : St} {a : Act} {w : World} {e : Env} {k : St → Prop} {Q : Exit → Act → World → Prop} {next : Act → World → Prop} (ho : all[i]? = some o)
    (h : RSt G σ a w e) (hk : evOps P G all (o :: rest) σ k)
    (hn : ∀ σ' a' w' e', evOps P G all rest σ' k → σ'.cur = σ.cur → RSt G σ' a' w' e' → Ext σ.H w e σ'.H w' e' → next a' w') : wpOpIn (FW ro) 0 P all.toArray Q i next a w := by
  unfold wpOpIn
  simp only [List.getElem?_toArray, ho]
  have run : evOp P G o σ (fun v σ' => evOps P G all rest (σ'.put o.dst v) k) → o.wpIn (FW ro) 0 P a w next Q := by
    intro hk
    refine evOp_sound h hk _ _ fun u w' v σ' e' hk hc hst hv hx => ?_
    exact hn (σ'.put o.dst v) _ _ e' hk ((put_cur _ _ _).trans hc) (hst.put o.dst hv) (by rwa [put_H])
  have skip : evOps P G all rest (σ.put o.dst (.tup [])) k → (∀ f, o.about P w a.eval = some f → (FW ro).fn f) ∧ next (a.put o.dst undef) w := by
    intro hk
    refine ⟨fun _ _ => trivial, ?_⟩
    exact hn (σ.put o.dst (.tup [])) _ _ e hk (put_cur _ _ _) (h.put o.dst ⟨.tup [] #[] rfl (fun i v u h => by simp at h), trivial⟩) (by rw [put_H]; exact .refl _ _ _)
  simp only [evOps] at hk
  split at hk
  · rename_i hg
    rw [if_pos (wanted_none hg _)]
    exact run hk
  · rename_i j want hg
    split at hk
    · rename_i b hv
      have := want_run (b := b == want) h (by unfold Want; rw [hg]; exact .inl ⟨b, hv, rfl⟩)
      rw [this]
      by_cases hb : b = want
      · rw [if_pos (by simp [hb])]
        exact run (hk.1 hb)
      · rw [if_neg (by simp [hb])]
        exact skip (hk.2 hb)
    · rename_i hv
      have := want_run (b := false) h (by unfold Want; rw [hg]; exact .inr ⟨hv, rfl⟩)
      rw [this, if_neg (by simp)]
      exact skip hk
    · exact hk.elim

/-! ### quiet operations, in the order of the text -/
def evQs (P : Program) (G : Nat → Option (List V)) (all : List Oper) : List Oper → St → (St → Prop) → Prop
  | [], σ, k => k σ
  | o :: rest, σ, k =>
    match o.guard with
    | none => evQ P G o σ fun v => evQs P G all rest (σ.put o.dst (V.demote (dq all σ.H) v)) k
    | some (j, want) => match yieldedV all σ j with
      | some (.im (.bool b)) => (b = want → evQ P G o σ fun v => evQs P G all rest (σ.put o.dst (V.demote (dq all σ.H) v)) k) ∧
          (b ≠ want → evQs P G all rest (σ.put o.dst (.tup [])) k)
      | some (.tup []) => evQs P G all rest (σ.put o.dst (.tup [])) k
      | _ => False

/-- An operation's value, whatever else has been worked out. -/
def QC (P : Program) (G : Nat → Option (List V)) (all : List Oper) (o : Oper) (σ : St) (u : V) : Prop :=
  V.demote (dq all σ.H) u = u ∧
  ((Want all o σ true ∧ ∃ v, u = V.demote (dq all σ.H) v ∧ ∀ σ', Agree o σ σ' → ∀ ro a w e, RSt G σ' a w e → OpWp P G ro o σ' a w e fun v' τ => (τ = σ' ∨ (isVCall o = true ∧ τ = σ'.afterCall σ'.H)) ∧ v' = v) ∨
  (Want all o σ false ∧ u = .tup []))

theorem demote_demote (p : Nat → Bool) (v : V) : V.demote p (V.demote p v) = V.demote p v := by
  cases v with
  | dat es rows fl => cases fl with
    | cls c => by_cases h : p c = true <;> simp [V.demote, h]
    | _ => rfl
  | _ => rfl

theorem evQs_ex {all rest : List Oper} {o : Oper} {σ : St} {k : St → Prop} (h : evQs P G all (o :: rest) σ k) : ∃ u, QC P G all o σ u ∧ evQs P G all rest (σ.put o.dst u) k := by
  simp only [evQs] at h
  split at h
  · rename_i hg
    obtain ⟨u, h1, h2⟩ := evQ_ex h
    exact ⟨_, ⟨demote_demote _ _, .inl ⟨by unfold Want; rw [hg], u, rfl, h2⟩⟩, h1⟩
  · rename_i j want hg
    split at h
    · rename_i b hv
      by_cases hb : b = want
      · obtain ⟨u, h1, h2⟩ := evQ_ex (h.1 hb)
        exact ⟨_, ⟨demote_demote _ _, .inl ⟨by unfold Want; rw [hg]; exact .inl ⟨b, hv, by simp [hb]⟩, u, rfl, h2⟩⟩, h1⟩
      · exact ⟨_, ⟨rfl, .inr ⟨by unfold Want; rw [hg]; exact .inl ⟨b, hv, by simp [hb]⟩, rfl⟩⟩, h.2 hb⟩
    · rename_i hv
      exact ⟨_, ⟨rfl, .inr ⟨by unfold Want; rw [hg]; exact .inr ⟨hv, rfl⟩, rfl⟩⟩, h⟩
    · exact h.elim

/-- The same in all that the operation looks at. -/
def AgreeL (all : List Oper) (o : Oper) (σ σ' : St) : Prop := (heapFree o.op = true ∨ PreH σ.H σ'.H) ∧ ∀ t ∈ o.looksAt all.toArray, σ'.tmps[t]? = σ.tmps[t]?

theorem AgreeL.agree {all : List Oper} {o : Oper} {σ σ' : St} (h : AgreeL all o σ σ') : Agree o σ σ' := by
  refine ⟨h.1, fun x hx => ?_⟩
  cases x with
  | tmp t =>
    have := h.2 t (by
      unfold Oper.looksAt
      exact List.mem_append_left _ (List.mem_filterMap.2 ⟨.tmp t, by simpa using hx, rfl⟩))
    simp only [St.ev, List.getD_eq_getElem?_getD, this]
  | _ => rfl

theorem AgreeL.want {all : List Oper} {o : Oper} {σ σ' : St} {b : Bool} (h : AgreeL all o σ σ') (hw : Want all o σ b) : Want all o σ' b := by
  unfold Want at *
  split
  · rename_i hg; rw [hg] at hw; exact hw
  · rename_i j want hg
    rw [hg] at hw
    have : yieldedV all σ' j = yieldedV all σ j := by
      unfold yieldedV
      split
      · rename_i d hd
        exact h.2 d (by
          unfold Oper.looksAt
          refine List.mem_append_right _ ?_
          rw [hg]
          simp [hd])
      · rfl
    rw [this]
    exact hw

theorem qc_run {ro : Option Nat} {all : List Oper} {o : Oper} {i : Nat} {σ σ' : St} {u : V} {a : Act} {w : World} {e : Env} {Q : Exit → Act → World → Prop} {next : Act → World → Prop} (ho : all[i]? = some o)
    (hq : QC P G all o σ u) (ha : AgreeL all o σ σ') (h : RSt G σ' a w e) (hd : σ'.tmps.map (V.demote (dq all σ'.H)) = σ'.tmps)
    (hn : ∀ a' w' e', RSt G (σ'.put o.dst u) a' w' e' → Ext σ'.H w e σ'.H w' e' → next a' w') : wpOpIn (FW ro) 0 P all.toArray Q i next a w := by
  unfold wpOpIn
  simp only [List.getElem?_toArray, ho]
  rcases hq.2 with ⟨hw, v, hu, hop⟩ | ⟨hw, rfl⟩
  · rw [want_run h (ha.want hw), if_pos rfl]
    refine hop σ' ha.agree ro a w e h _ _ fun x w' v' τ e' hk hc hst hv hx => ?_
    obtain ⟨hτ, rfl⟩ := hk
    have hτ' : τ = σ' := by
      rcases hτ with rfl | ⟨hvc, rfl⟩
      · rfl
      · unfold St.afterCall
        rw [dq_call (List.mem_of_getElem? ho) hvc] at hd
        rw [hd]
    subst hτ'
    refine hn _ _ e' ?_ hx
    rw [hu]
    exact hst.put o.dst (hv.demote _)
  · rw [want_run h (ha.want hw), if_neg (by simp)]
    exact ⟨fun _ _ => trivial, hn _ _ e (h.put o.dst ⟨.tup [] #[] rfl (fun i v u h => by simp at h), trivial⟩) (.refl _ _ _)⟩

end Go.Abs

/-! Sound14 -/
/- Regions that draw their order: every order. -/
namespace Go.Abs
open Go.RowKit

variable {P : Program} {G : Nat → Option (List V)}

/-- The operations that an operation waits for. -/
def Bnd (o : Oper) : List Nat := (o.after.toList.filter (Region.binds .any)).map (·.on)

/-- Bit by bit: what an operation waits for, through others too. -/
def maskOf (ms : List Nat) (es : List Nat) : Nat := es.foldl (fun m e => m ||| (2 ^ e ||| ms.getD e 0)) 0
def masksG : List (List Nat) → List Nat → List Nat
  | [], ms => ms
  | b :: bs, ms => masksG bs (ms ++ [maskOf ms b])

theorem maskOf_bit (ms : List Nat) (es : List Nat) (j : Nat) (h : (maskOf ms es).testBit j = true) : ∃ e ∈ es, j = e ∨ (ms.getD e 0).testBit j = true := by
  have gen : ∀ (es : List Nat) (m : Nat), (es.foldl (fun m e => m ||| (2 ^ e ||| ms.getD e 0)) m).testBit j = true → m.testBit j = true ∨ ∃ e ∈ es, j = e ∨ (ms.getD e 0).testBit j = true := by
    intro es
    induction es with
    | nil => intro m h; exact .inl h
    | cons e es ih =>
      intro m h
      rcases ih _ h with h1 | ⟨e', he', h1⟩
      · rw [Nat.testBit_or, Nat.testBit_or, Nat.testBit_two_pow] at h1
        simp only [Bool.or_eq_true, decide_eq_true_eq] at h1
        rcases h1 with h1 | h1 | h1
        · exact .inl h1
        · exact .inr ⟨e, by simp, .inl h1.symm⟩
        · exact .inr ⟨e, by simp, .inr h1⟩
      · exact .inr ⟨e', by simp [he'], h1⟩
  rcases gen es 0 h with h1 | h1
  · simp at h1
  · exact h1

theorem masksG_spec (bs : List (List Nat)) : ∀ (ms : List Nat) (i j : Nat), ((masksG bs ms).getD i 0).testBit j = true →
    (i < ms.length ∧ (ms.getD i 0).testBit j = true) ∨
    ∃ b, ms.length ≤ i ∧ bs[i - ms.length]? = some b ∧ ∃ e ∈ b, j = e ∨ (((masksG bs ms).getD e 0).testBit j = true ∧ e < i) := by
  induction bs with
  | nil =>
    intro ms i j h
    refine .inl ⟨?_, h⟩
    rcases Nat.lt_or_ge i ms.length with h1 | h1
    · exact h1
    · have : masksG [] ms = ms := rfl
      rw [this, List.getD_eq_getElem?_getD, List.getElem?_eq_none h1] at h
      simp at h
  | cons b bs ih =>
    intro ms i j h
    have hpre : ∀ (bs : List (List Nat)) (ms : List Nat) (e : Nat), e < ms.length → (masksG bs ms).getD e 0 = ms.getD e 0 := by
      intro bs
      induction bs with
      | nil => intro ms e _; rfl
      | cons b bs ih =>
        intro ms e he
        show (masksG bs (ms ++ [maskOf ms b])).getD e 0 = _
        rw [ih _ e (by simp; omega)]
        simp [List.getD_eq_getElem?_getD, List.getElem?_append_left he]
    have hm : masksG (b :: bs) ms = masksG bs (ms ++ [maskOf ms b]) := rfl
    rw [hm] at h ⊢
    rcases ih _ i j h with ⟨h1, h2⟩ | ⟨b', h1, h2, e, he, h3⟩
    · by_cases hi : i < ms.length
      · refine .inl ⟨hi, ?_⟩
        rw [List.getD_eq_getElem?_getD, List.getElem?_append_left hi] at h2
        rw [List.getD_eq_getElem?_getD]
        exact h2
      · have hie : i = ms.length := by simp at h1; omega
        subst hie
        rw [List.getD_eq_getElem?_getD, List.getElem?_append_right (Nat.le_refl _)] at h2
        simp at h2
        obtain ⟨e, he, h3⟩ := maskOf_bit ms b j h2
        refine .inr ⟨b, Nat.le_refl _, by simp, e, he, ?_⟩
        rcases h3 with h3 | h3
        · exact .inl h3
        · have hlt : e < ms.length := by
            rcases Nat.lt_or_ge e ms.length with h4 | h4
            · exact h4
            · rw [List.getD_eq_getElem?_getD, List.getElem?_eq_none h4] at h3
              simp at h3
          refine .inr ⟨?_, hlt⟩
          rw [hpre bs _ e (by simp; omega)]
          rw [List.getD_eq_getElem?_getD, List.getElem?_append_left hlt, ← List.getD_eq_getElem?_getD]
          exact h3
    · simp only [List.length_append, List.length_cons, List.length_nil] at h1 h2
      refine .inr ⟨b', by omega, ?_, e, he, h3⟩
      rw [show i - ms.length = (i - (ms.length + (0 + 1))) + 1 by omega]
      simpa using h2

def dstIs (d : Option Tmp) (t : Tmp) : Bool := match d with | some x => Nat.beq x t | none => false

/-- May the first q operations be carried out in any order, and the others, one by one, behind them? -/
def drawOk (ops : List Oper) (q : Nat) : Bool :=
  let ms := masksG (ops.map Bnd) []
  let ds := (ops.map (·.dst)).zipIdx
  ops.zipIdx.all fun (o, i) =>
    (Bnd o).all (fun e => Nat.blt e i) &&
    (if i < q then
      (match o.dst with | none => true | some t => ds.all fun (d, j) => Nat.beq j i || !dstIs d t) &&
      (o.looksAt ops.toArray).all fun t => ds.all fun (d, j) => !dstIs d t || (if j < i then (ms.getD i 0).testBit j else Nat.beq j i || (ms.getD j 0).testBit i)
     else (List.range i).all fun j => (ms.getD i 0).testBit j)

structure DrawOk (ops : List Oper) (q : Nat) : Prop where
  up : ∀ i o, ops[i]? = some o → ∀ e ∈ Bnd o, e < i
  one : ∀ i o t, i < q → ops[i]? = some o → o.dst = some t → ∀ j o', j ≠ i → ops[j]? = some o' → o'.dst ≠ some t
  look : ∀ i o t, i < q → ops[i]? = some o → t ∈ o.looksAt ops.toArray → ∀ j o', ops[j]? = some o' → o'.dst = some t →
    (j < i ∧ ((masksG (ops.map Bnd) []).getD i 0).testBit j = true) ∨ j = i ∨ (i < j ∧ ((masksG (ops.map Bnd) []).getD j 0).testBit i = true)
  tail : ∀ i o j, q ≤ i → ops[i]? = some o → j < i → ((masksG (ops.map Bnd) []).getD i 0).testBit j = true

theorem mem_zipIdx' {α : Type} {l : List α} {i : Nat} {x : α} (h : l[i]? = some x) : (x, i) ∈ l.zipIdx := by
  rw [List.mem_zipIdx_iff_getElem?]
  exact h

theorem drawOk_spec {ops : List Oper} {q : Nat} (h : drawOk ops q = true) : DrawOk ops q := by
  unfold drawOk at h
  simp only [List.all_eq_true] at h
  have hi : ∀ i o, ops[i]? = some o → _ := fun i o ho => h (o, i) (mem_zipIdx' ho)
  have hds : ∀ j o', ops[j]? = some o' → (o'.dst, j) ∈ (ops.map (·.dst)).zipIdx := fun j o' hj => mem_zipIdx' (by rw [List.getElem?_map, hj]; rfl)
  refine ⟨fun i o ho e he => ?_, fun i o t hq ho hd j o' hne hj hd' => ?_, fun i o t hq ho ht j o' hj hd => ?_, fun i o j hq ho hj => ?_⟩
  · have := hi i o ho
    simp only [Bool.and_eq_true, List.all_eq_true] at this
    exact Nat.blt_eq.mp (this.1 e he)
  · have := hi i o ho
    simp only [Bool.and_eq_true, if_pos hq, hd, List.all_eq_true] at this
    have h1 := this.2.1 _ (hds j o' hj)
    simp only [hd', dstIs, Bool.or_eq_true, Bool.not_eq_true'] at h1
    rcases h1 with h1 | h1
    · exact hne (Nat.eq_of_beq_eq_true h1)
    · rw [Nat.beq_refl] at h1; cases h1
  · have := hi i o ho
    simp only [Bool.and_eq_true, if_pos hq, List.all_eq_true] at this
    have h1 := this.2.2 t ht _ (hds j o' hj)
    simp only [hd, dstIs, Nat.beq_refl, Bool.not_true, Bool.false_or] at h1
    by_cases hji : j < i
    · rw [if_pos hji] at h1
      exact .inl ⟨hji, h1⟩
    · rw [if_neg hji] at h1
      simp only [Bool.or_eq_true] at h1
      rcases h1 with h1 | h1
      · exact .inr (.inl (Nat.eq_of_beq_eq_true h1))
      · by_cases he : j = i
        · exact .inr (.inl he)
        · exact .inr (.inr ⟨by omega, h1⟩)
  · have := hi i o ho
    simp only [Bool.and_eq_true, if_neg (Nat.not_lt.2 hq), List.all_eq_true] at this
    exact this.2 j (List.mem_range.2 hj)

/-- What has been carried out: with each operation what it waits for. -/
def Closed (ops : List Oper) (L : Nat → Bool) : Prop := ∀ i o, ops[i]? = some o → L i = true → ∀ e ∈ Bnd o, L e = true

theorem closed_mask {ops : List Oper} {L : Nat → Bool} (_hup : ∀ i o, ops[i]? = some o → ∀ e ∈ Bnd o, e < i) (hc : Closed ops L) : ∀ (i : Nat) (o : Oper), ops[i]? = some o → (∀ e ∈ Bnd o, L e = true) →
    ∀ j, ((masksG (ops.map Bnd) []).getD i 0).testBit j = true → L j = true := by
  intro i
  induction i using Nat.strongRecOn with
  | _ i ih =>
    intro o ho hall j hj
    rcases masksG_spec (ops.map Bnd) [] i j hj with ⟨h1, _⟩ | ⟨b, _, hb, e, he, h3⟩
    · simp at h1
    · simp only [List.length_nil, Nat.sub_zero, List.getElem?_map, ho, Option.map_some, Option.some.injEq] at hb
      subst hb
      rcases h3 with rfl | ⟨h3, h4⟩
      · exact hall _ he
      · have hlt : e < ops.length := by have := (List.getElem?_eq_some_iff.1 ho).1; omega
        exact ih e h4 ops[e] (List.getElem?_eq_getElem hlt) (fun e' he' => hc e _ (List.getElem?_eq_getElem hlt) (hall e he) e' he') j h3

/-! ### states on the way -/
/-- Whose temporary is it? -/
def own (ops : List Oper) (q : Nat) (t : Nat) : Option Nat := (List.range q).find? fun j => match ops[j]? with | some o => dstIs o.dst t | none => false

theorem own_of {ops : List Oper} {q : Nat} (hok : DrawOk ops q) {i : Nat} {o : Oper} {t : Nat} (hi : i < q) (ho : ops[i]? = some o) (hd : o.dst = some t) : own ops q t = some i := by
  unfold own
  have hsome : ((List.range q).find? fun j => match ops[j]? with | some o => dstIs o.dst t | none => false).isSome := by
    rw [List.find?_isSome]
    exact ⟨i, List.mem_range.2 hi, by simp [ho, hd, dstIs]⟩
  obtain ⟨j, hj⟩ := Option.isSome_iff_exists.1 hsome
  rw [hj]
  have h1 := List.find?_some hj
  split at h1
  · rename_i o' ho'
    unfold dstIs at h1
    split at h1
    · rename_i x hx
      have := Nat.eq_of_beq_eq_true h1
      subst this
      by_cases hji : j = i
      · rw [hji]
      · exact absurd hx (hok.one i o x hi ho hd j o' hji ho')
    · cases h1
  · cases h1

theorem own_some {ops : List Oper} {q t j : Nat} (h : own ops q t = some j) : j < q ∧ ∃ o, ops[j]? = some o ∧ o.dst = some t := by
  unfold own at h
  have h1 := List.find?_some h
  have h2 := List.mem_of_find?_eq_some h
  refine ⟨List.mem_range.1 h2, ?_⟩
  split at h1
  · rename_i o ho
    refine ⟨o, ho, ?_⟩
    unfold dstIs at h1
    split at h1
    · rename_i x hx
      rw [hx, Nat.eq_of_beq_eq_true h1]
    · cases h1
  · cases h1

/-- The state when the operations of L have been carried out. -/
def stL (ops : List Oper) (q : Nat) (vals : Nat → V) (σ : St) (L : Nat → Bool) : St :=
  { σ with tmps := σ.tmps.mapIdx fun t v => match own ops q t with | some j => if L j then vals j else v | none => v }

theorem stL_get (ops : List Oper) (q : Nat) (vals : Nat → V) (σ : St) (L : Nat → Bool) (t : Nat) :
    (stL ops q vals σ L).tmps[t]? = (σ.tmps[t]?).map fun v => match own ops q t with | some j => if L j then vals j else v | none => v := by
  simp [stL]

theorem St.put_get (σ : St) (d : Option Tmp) (v : V) (t : Nat) : (σ.put d v).tmps[t]? = if d = some t then (σ.tmps[t]?).map (fun _ => v) else σ.tmps[t]? := by
  cases d with
  | none => simp [St.put]
  | some d =>
    simp only [St.put, Option.some.injEq]
    rw [List.getElem?_set]
    by_cases h : d = t
    · subst h
      simp only [if_true]
      split
      · rename_i hlt; simp [hlt]
      · rename_i hlt; simp [List.getElem?_eq_none (by omega : σ.tmps.length ≤ d)]
    · simp [h]

theorem st_ext {σ σ' : St} (h1 : σ.H = σ'.H) (h2 : σ.defs = σ'.defs) (h3 : σ.cur = σ'.cur) (h4 : ∀ t : Nat, σ.tmps[t]? = σ'.tmps[t]?) : σ = σ' := by
  cases σ; cases σ'
  simp only at *
  subst h1; subst h2; subst h3
  congr
  exact List.ext_getElem? h4

/-- One more. -/
theorem stL_put {ops : List Oper} {q : Nat} (hok : DrawOk ops q) (vals : Nat → V) (σ : St) (L : Nat → Bool) {i : Nat} {o : Oper} (hi : i < q) (ho : ops[i]? = some o) :
    (stL ops q vals σ L).put o.dst (vals i) = stL ops q vals σ (fun j => L j || decide (j = i)) := by
  refine st_ext (by simp [stL]) (by cases o.dst <;> rfl) (by simp [stL]) fun t => ?_
  rw [St.put_get, stL_get, stL_get]
  by_cases hd : o.dst = some t
  · rw [if_pos hd, own_of hok hi ho hd]
    cases σ.tmps[t]? <;> simp
  · rw [if_neg hd]
    congr 1
    funext v
    cases hw : own ops q t with
    | none => rfl
    | some j =>
      have : j ≠ i := by
        rintro rfl
        obtain ⟨_, o', ho', hd'⟩ := own_some hw
        rw [ho] at ho'
        cases ho'
        exact hd hd'
      simp [this]

/-- What an operation looks at is the same as in the order of the text. -/
theorem agree_stL {ops : List Oper} {q : Nat} (hok : DrawOk ops q) (vals : Nat → V) (σ : St) (L : Nat → Bool) (hc : Closed ops L) {i : Nat} {o : Oper} (hi : i < q) (ho : ops[i]? = some o)
    (hr : ∀ e ∈ Bnd o, L e = true) (hn : L i = false) : AgreeL ops o (stL ops q vals σ fun j => decide (j < i)) (stL ops q vals σ L) := by
  refine ⟨.inr PreH.rfl', fun t ht => ?_⟩
  rw [stL_get, stL_get]
  congr 1
  funext v
  cases hw : own ops q t with
  | none => rfl
  | some j =>
    obtain ⟨hj, o', ho', hd'⟩ := own_some hw
    simp only
    rcases hok.look i o t hi ho ht j o' ho' hd' with ⟨h1, h2⟩ | rfl | ⟨h1, h2⟩
    · rw [closed_mask hok.up hc i o ho hr j h2]
      simp [h1]
    · rw [hn]
      simp
    · have : L j = false := by
        cases hL : L j with
        | false => rfl
        | true =>
          have := closed_mask hok.up hc j o' ho' (fun e he => hc j o' ho' hL e he) i h2
          rw [hn] at this; cases this
      rw [this]
      have : ¬ j < i := by omega
      simp [this]

/-- The values, out of the walk in the order of the text. -/
theorem evQs_vals {ops : List Oper} {q : Nat} (hok : DrawOk ops q) (hq : q ≤ ops.length) {n : Nat} (hn : n ≤ q) (σ : St) (k : St → Prop) : ∀ (m i : Nat) (vals : Nat → V), i + m = n →
    evQs P G ops ((ops.drop i).take m) (stL ops q vals σ fun j => decide (j < i)) k →
    ∃ vals' : Nat → V, (∀ j, j < i → vals' j = vals j) ∧ (∀ j o, i ≤ j → j < n → ops[j]? = some o → QC P G ops o (stL ops q vals' σ fun l => decide (l < j)) (vals' j)) ∧ k (stL ops q vals' σ fun j => decide (j < n)) := by
  intro m
  induction m with
  | zero =>
    intro i vals hm h
    have : i = n := by omega
    subst this
    exact ⟨vals, fun _ _ => rfl, fun j o h1 h2 _ => by omega, by simpa [evQs] using h⟩
  | succ m ih =>
    intro i vals hm h
    have hi : i < ops.length := by omega
    have ho : ops[i]? = some ops[i] := List.getElem?_eq_getElem hi
    have hdrop : (ops.drop i).take (m + 1) = ops[i] :: (ops.drop (i + 1)).take m := by
      rw [List.drop_eq_getElem_cons hi, List.take_succ_cons]
    rw [hdrop] at h
    obtain ⟨u, hu, hrest⟩ := evQs_ex h
    let vals1 : Nat → V := fun j => if j = i then u else vals j
    have heq : ∀ n, n ≤ i → (stL ops q vals1 σ fun j => decide (j < n)) = (stL ops q vals σ fun j => decide (j < n)) := by
      intro n hn'
      refine st_ext rfl rfl rfl fun t => ?_
      rw [stL_get, stL_get]
      congr 1
      funext v
      cases own ops q t with
      | none => rfl
      | some j =>
        simp only
        by_cases hj : j < n
        · have : j ≠ i := by omega
          simp [vals1, this]
        · simp [hj]
    have hput : (stL ops q vals σ fun j => decide (j < i)).put ops[i].dst u = stL ops q vals1 σ fun j => decide (j < i + 1) := by
      rw [← heq i (Nat.le_refl _)]
      have h1 : u = vals1 i := by simp [vals1]
      rw [h1, stL_put hok vals1 σ _ (by omega) ho]
      congr 1
      funext j
      by_cases hj : j = i
      · simp [hj]
      · simp only [hj, decide_false, Bool.or_false, decide_eq_decide]
        omega
    rw [hput] at hrest
    obtain ⟨vals', h1, h2, h3⟩ := ih (i + 1) vals1 (by omega) hrest
    refine ⟨vals', fun j hj => ?_, fun j o hj1 hj2 hjo => ?_, h3⟩
    · rw [h1 j (by omega)]
      have : j ≠ i := by omega
      simp [vals1, this]
    · by_cases hj : j = i
      · subst hj
        rw [ho] at hjo
        cases hjo
        have hsame : (stL ops q vals' σ fun l => decide (l < j)) = (stL ops q vals σ fun l => decide (l < j)) := by
          rw [← heq j (Nat.le_refl _)]
          refine st_ext rfl rfl rfl fun t => ?_
          rw [stL_get, stL_get]
          congr 1
          funext v
          cases own ops q t with
          | none => rfl
          | some l =>
            simp only
            by_cases hl : l < j
            · simp [hl, h1 l (by omega)]
            · simp [hl]
        rw [hsame, h1 j (by omega)]
        have : vals1 j = u := by simp [vals1]
        rw [this]
        exact hu
      · exact h2 j o (by omega) hj2 hjo

/-- Behind the quiet operations: one by one. -/
theorem draw_tail {ops : List Oper} {q : Nat} (hok : DrawOk ops q) {k : St → Prop} {Q : Exit → Act → World → Prop} {ro : Option Nat} : ∀ (fuel m : Nat) (listed : Array Bool) (σ : St) (a : Act) (w : World) (e : Env),
    q ≤ m → m ≤ ops.length → ops.length ≤ m + fuel → listed.size = ops.length → (∀ j, j < ops.length → listed.getD j true = decide (j < m)) → RSt G σ a w e → evOps P G ops (ops.drop m) σ k →
    (∀ σ' a' w' e', k σ' → σ'.cur = σ.cur → RSt G σ' a' w' e' → Ext σ.H w e σ'.H w' e' → Q .normal a' w') →
    wpAnyIn (FW ro) 0 P .any ops.toArray Q fuel listed a w := by
  intro fuel
  induction fuel with
  | zero =>
    intro m listed σ a w e hq hm hf hs hl h hk hQ
    have hme : m = ops.length := by omega
    refine ⟨?_, ?_⟩
    · refine List.eq_nil_iff_forall_not_mem.2 fun j hj => ?_
      obtain ⟨h1, o, ho, _⟩ := mem_ready.1 hj
      have hlt : j < ops.length := by
        rw [List.getElem?_toArray] at ho
        exact (List.getElem?_eq_some_iff.1 ho).1
      rw [hl j hlt] at h1
      simp at h1
      omega
    · have : ops.drop m = [] := by rw [hme]; exact List.drop_length
      rw [this] at hk
      exact hQ σ a w e hk rfl h (.refl _ _ _)
  | succ fuel ih =>
    intro m listed σ a w e hq hm hf hs hl h hk hQ
    have hlF : ∀ j, j < ops.length → listed.getD j false = decide (j < m) := by
      intro j hj
      have := hl j hj
      have hjs : j < listed.size := by omega
      simp [hjs] at this ⊢
      exact this
    refine ⟨fun hr => ?_, fun i hi => ?_⟩
    · by_cases hme : m = ops.length
      · have : ops.drop m = [] := by rw [hme]; exact List.drop_length
        rw [this] at hk
        exact hQ σ a w e hk rfl h (.refl _ _ _)
      · exfalso
        have hlt : m < ops.length := by omega
        have : m ∈ Region.ready .any ops.toArray listed := by
          refine mem_ready.2 ⟨by rw [hl m hlt]; simp, ops[m], by simp [hlt], fun ed hed hb => ?_⟩
          have := hok.up m ops[m] (List.getElem?_eq_getElem hlt) ed.on (List.mem_map.2 ⟨ed, List.mem_filter.2 ⟨by simpa using hed, hb⟩, rfl⟩)
          rw [hlF _ (by omega)]
          simpa using this
        rw [hr] at this
        cases this
    · obtain ⟨h1, o, ho, hall⟩ := mem_ready.1 hi
      rw [List.getElem?_toArray] at ho
      have hlt : i < ops.length := (List.getElem?_eq_some_iff.1 ho).1
      rw [hl i hlt] at h1
      simp at h1
      have him : i = m := by
        by_cases hh : m < i
        · exfalso
          have hc : Closed ops fun j => decide (j < m) := fun j o' hj hL e' he' => by
            simp at hL ⊢
            have := hok.up j o' hj e' he'
            omega
          have := closed_mask hok.up hc i o ho (fun e' he' => by
            obtain ⟨ed, hed, rfl⟩ := List.mem_map.1 he'
            obtain ⟨h3, h4⟩ := List.mem_filter.1 hed
            have h5 := hall ed (by simpa using h3) h4
            have h6 := hok.up i o ho _ he'
            rw [hlF _ (by omega)] at h5
            exact h5) m (hok.tail i o m (by omega) ho hh)
          simp at this
        · omega
      subst him
      have hdrop : ops.drop i = o :: ops.drop (i + 1) := by
        rw [List.drop_eq_getElem_cons hlt]
        congr
        have := List.getElem?_eq_getElem hlt
        rw [this] at ho
        exact Option.some.inj ho
      rw [hdrop] at hk
      refine evOps_step ho h hk fun σ' a' w' e' hk' hc' hst' hx' => ?_
      refine ih (i + 1) _ σ' a' w' e' (by omega) (by omega) (by omega) (by simpa using hs) (fun j hj => ?_) hst' hk' fun σ2 a2 w2 e2 hk2 hc2 hst2 hx2 => hQ σ2 a2 w2 e2 hk2 (hc2.trans hc') hst2 (hx'.trans hx2)
      by_cases hji : i = j
      · subst hji
        have hjs : i < listed.size := by omega
        simp [hjs]
      · rw [getD_set_ne true hji, hl j hj]
        simp only [decide_eq_decide]
        omega

/-- The quiet operations, in any order. -/
theorem draw_quiet {ops : List Oper} {q : Nat} (hok : DrawOk ops q) (hql : q ≤ ops.length) {σ : St} {vals : Nat → V} {k : St → Prop} {Q : Exit → Act → World → Prop} {ro : Option Nat}
    (hd : σ.tmps.map (V.demote (dq ops σ.H)) = σ.tmps)
    (hvals : ∀ j o, j < q → ops[j]? = some o → QC P G ops o (stL ops q vals σ fun l => decide (l < j)) (vals j))
    (hk : evOps P G ops (ops.drop q) (stL ops q vals σ fun j => decide (j < q)) k) {w0 : World} {e0 : Env}
    (hQ : ∀ σ' a' w' e', k σ' → σ'.cur = σ.cur → RSt G σ' a' w' e' → Ext σ.H w0 e0 σ'.H w' e' → Q .normal a' w') :
    ∀ (fuel : Nat) (listed : Array Bool) (a : Act) (w : World) (e : Env), listed.size = ops.length → (∀ j, q ≤ j → j < ops.length → listed.getD j true = false) → Closed ops (fun j => listed.getD j false) →
    (ops.length ≤ fuel + (List.range q).countP (fun j => listed.getD j false)) →
    RSt G (stL ops q vals σ fun j => listed.getD j false) a w e → Ext σ.H w0 e0 σ.H w e → wpAnyIn (FW ro) 0 P .any ops.toArray Q fuel listed a w := by
  have hdem : ∀ L, (stL ops q vals σ L).tmps.map (V.demote (dq ops σ.H)) = (stL ops q vals σ L).tmps := by
    intro L
    refine List.ext_getElem? fun t => ?_
    rw [List.getElem?_map, stL_get]
    cases hv : σ.tmps[t]? with
    | none => rfl
    | some v =>
      simp only [Option.map_some, Option.some.injEq]
      have hvd : V.demote (dq ops σ.H) v = v := by
        have : (σ.tmps.map (V.demote (dq ops σ.H)))[t]? = σ.tmps[t]? := by rw [hd]
        rw [List.getElem?_map, hv] at this
        simpa using this
      cases hw : own ops q t with
      | none => exact hvd
      | some j =>
        obtain ⟨hj, o, ho, _⟩ := own_some hw
        simp only
        split
        · exact (hvals j o hj ho).1
        · exact hvd
  intro fuel
  induction fuel with
  | zero =>
    intro listed a w e hs htail hc hf h hx
    have hcnt : (List.range q).countP (fun j => listed.getD j false) ≤ q := by
      have := List.countP_le_length (p := fun j => listed.getD j false) (l := List.range q)
      simpa using this
    have hqe : q = ops.length := by omega
    have hallq : ∀ j, j < q → listed.getD j false = true := by
      have : (List.range q).countP (fun j => listed.getD j false) = (List.range q).length := by rw [List.length_range]; omega
      rw [List.countP_eq_length] at this
      exact fun j hj => this j (List.mem_range.2 hj)
    have hst : (stL ops q vals σ fun j => listed.getD j false) = stL ops q vals σ fun j => decide (j < q) := by
      refine st_ext rfl rfl rfl fun t => ?_
      rw [stL_get, stL_get]
      congr 1
      funext v
      cases hw : own ops q t with
      | none => rfl
      | some j =>
        obtain ⟨hj, _⟩ := own_some hw
        simp [hallq j hj, hj]
    rw [hst] at h
    refine draw_tail hok 0 q listed _ a w e (Nat.le_refl _) hql (by omega) hs (fun j hj => ?_) h hk fun σ' a' w' e' h1 h2 h3 h4 => hQ σ' a' w' e' h1 h2 h3 (hx.trans h4)
    have hjs : j < listed.size := by omega
    have := hallq j (by omega)
    simp [hjs] at this ⊢
    rw [this]
    simp; omega
  | succ fuel ih =>
    intro listed a w e hs htail hc hf h hx
    by_cases hallq : ∀ j, j < q → listed.getD j false = true
    · have hst : (stL ops q vals σ fun j => listed.getD j false) = stL ops q vals σ fun j => decide (j < q) := by
        refine st_ext rfl rfl rfl fun t => ?_
        rw [stL_get, stL_get]
        congr 1
        funext v
        cases hw : own ops q t with
        | none => rfl
        | some j =>
          obtain ⟨hj, _⟩ := own_some hw
          simp [hallq j hj, hj]
      rw [hst] at h
      have hcnt : (List.range q).countP (fun j => listed.getD j false) ≤ q := by
        have := List.countP_le_length (p := fun j => listed.getD j false) (l := List.range q)
        simpa using this
      refine draw_tail hok (fuel + 1) q listed _ a w e (Nat.le_refl _) hql (by omega) hs (fun j hj => ?_) h hk fun σ' a' w' e' h1 h2 h3 h4 => hQ σ' a' w' e' h1 h2 h3 (hx.trans h4)
      have hjs : j < listed.size := by omega
      by_cases hjq : j < q
      · have := hallq j hjq
        simp [hjs] at this ⊢
        rw [this]
        simp; omega
      · rw [htail j (by omega) hj]
        simp; omega
    · -- the least that has not been carried out may come up
      have hleast : ∃ j, j < q ∧ listed.getD j false = false ∧ ∀ l, l < j → listed.getD l false = true := by
        have : ∃ j, j < q ∧ listed.getD j false = false := by
          by_cases hh : ∃ j, j < q ∧ listed.getD j false = false
          · exact hh
          · exact absurd (fun j hj => by
              cases hb : listed.getD j false with
              | true => rfl
              | false => exact absurd ⟨j, hj, hb⟩ hh) hallq
        obtain ⟨j, hj⟩ := this
        induction j using Nat.strongRecOn with
        | _ j ihj =>
          by_cases hl : ∀ l, l < j → listed.getD l false = true
          · exact ⟨j, hj.1, hj.2, hl⟩
          · have : ∃ l, l < j ∧ listed.getD l false = false := by
              by_cases hh : ∃ l, l < j ∧ listed.getD l false = false
              · exact hh
              · exact absurd (fun l hlj => by
                  cases hb : listed.getD l false with
                  | true => rfl
                  | false => exact absurd ⟨l, hlj, hb⟩ hh) hl
            obtain ⟨l, hl1, hl2⟩ := this
            exact ihj l hl1 ⟨by omega, hl2⟩
      obtain ⟨j0, hj0, hj0f, hj0l⟩ := hleast
      have hgd : ∀ j, j < ops.length → listed.getD j true = listed.getD j false := by
        intro j hj
        have hjs : j < listed.size := by omega
        simp [hjs]
      refine ⟨fun hr => ?_, fun i hi => ?_⟩
      · exfalso
        have hlt : j0 < ops.length := by omega
        have : j0 ∈ Region.ready .any ops.toArray listed := by
          refine mem_ready.2 ⟨by rw [hgd j0 hlt]; exact hj0f, ops[j0], by simp [hlt], fun ed hed hb => ?_⟩
          exact hj0l _ (hok.up j0 ops[j0] (List.getElem?_eq_getElem hlt) ed.on (List.mem_map.2 ⟨ed, List.mem_filter.2 ⟨by simpa using hed, hb⟩, rfl⟩))
        rw [hr] at this
        cases this
      · obtain ⟨h1, o, ho, hall⟩ := mem_ready.1 hi
        rw [List.getElem?_toArray] at ho
        have hlt : i < ops.length := (List.getElem?_eq_some_iff.1 ho).1
        have hbnd : ∀ e' ∈ Bnd o, listed.getD e' false = true := fun e' he' => by
          obtain ⟨ed, hed, rfl⟩ := List.mem_map.1 he'
          obtain ⟨h3, h4⟩ := List.mem_filter.1 hed
          exact hall ed (by simpa using h3) h4
        have hiq : i < q := by
          rcases Nat.lt_or_ge i q with h2 | h2
          · exact h2
          · exfalso
            have := closed_mask hok.up hc i o ho hbnd j0 (hok.tail i o j0 h2 ho (by omega))
            simp only [hj0f] at this
            cases this
        have hif : listed.getD i false = false := by rw [← hgd i hlt]; exact h1
        refine qc_run ho (hvals i o hiq ho) (agree_stL hok vals σ _ hc hiq ho hbnd hif) h (hdem _) fun a' w' e' hst' hx' => ?_
        rw [stL_put hok vals σ _ hiq ho] at hst'
        have hLeq : (fun j => listed.getD j false || decide (j = i)) = fun j => (listed.setIfInBounds i true).getD j false := by
          funext j
          by_cases hji : i = j
          · subst hji
            have hjs : i < listed.size := by omega
            simp [hjs]
          · have hji' : ¬ j = i := fun h => hji h.symm
            rw [getD_set_ne false hji]
            simp [hji']
        rw [hLeq] at hst'
        refine ih _ a' w' e' (by simpa using hs) (fun j hj hjl => ?_) (fun j o' hj hL e'' he'' => ?_) ?_ hst' (hx.trans hx')
        · rw [getD_set_ne true (by omega)]
          exact htail j hj hjl
        · simp only [← congrFun hLeq j] at hL
          simp only [← congrFun hLeq e'']
          simp only [Bool.or_eq_true, decide_eq_true_eq] at hL ⊢
          rcases hL with hL | rfl
          · exact .inl (hc j o' hj hL e'' he'')
          · rw [ho] at hj
            cases hj
            exact .inl (hbnd e'' he'')
        · have hcnt : (List.range q).countP (fun j => (listed.setIfInBounds i true).getD j false) = (List.range q).countP (fun j => listed.getD j false) + 1 := by
            rw [← hLeq]
            have gen : ∀ n, (List.range n).countP (fun j => listed.getD j false || decide (j = i)) = (List.range n).countP (fun j => listed.getD j false) + if i < n then 1 else 0 := by
              intro n
              induction n with
              | zero => simp
              | succ n ihn =>
                rw [List.range_succ, List.countP_append, List.countP_append, ihn]
                simp only [List.countP_cons, List.countP_nil, Nat.zero_add]
                by_cases hni : n = i
                · subst hni
                  rw [hif]
                  simp
                · simp only [hni, decide_false, Bool.or_false]
                  by_cases h1 : i < n
                  · have h2 : i < n + 1 := by omega
                    rw [if_pos h1, if_pos h2]; omega
                  · have h2 : ¬ i < n + 1 := by omega
                    rw [if_neg h1, if_neg h2]; omega
            rw [gen q, if_pos hiq]
          rw [hcnt]
          omega

/-- A region that draws its order. -/
theorem wpc_draw {id : Nat} {ops : Array Oper} {Φ : Exit → St → Prop} {σ : St} (q : Nat) (hm : P.follows .mixedOrders = true) (hql : q ≤ ops.toList.length) (hok : drawOk ops.toList q = true)
    (h : evQs P G ops.toList (ops.toList.take q) { σ with tmps := σ.tmps.map (V.demote (dq ops.toList σ.H)) } fun σ' => evOps P G ops.toList (ops.toList.drop q) σ' (Φ .normal)) : WPc P G (.region id ops true) Φ σ := by
  intro a w e hst
  have hok := drawOk_spec hok
  refine wpIn_region_any hm ?_
  let σ1 : St := { σ with tmps := σ.tmps.map (V.demote (dq ops.toList σ.H)) }
  obtain ⟨hst1, hx1⟩ := hst.drew
  have hst2 : RSt G σ1 a w.drew e := ⟨hst1.heap, ⟨by
    show (σ.tmps.map _).length = _
    simpa using hst1.tmps.1, fun i v u hv hu => by
    simp only [σ1, List.getElem?_map] at hv
    obtain ⟨v', hv', rfl⟩ := Option.map_eq_some_iff.1 hv
    exact (hst1.tmps.2 i v' u hv' hu).demote _⟩, hst1.defs, hst1.defsN, hst1.cur⟩
  have h0 : ∀ vals, stL ops.toList q vals σ1 (fun j => decide (j < 0)) = σ1 := fun vals => by
    refine st_ext rfl rfl rfl fun t => ?_
    rw [stL_get]
    cases σ1.tmps[t]? with
    | none => rfl
    | some v => cases own ops.toList q t <;> simp
  obtain ⟨vals, _, hv, hk⟩ := evQs_vals hok hql (Nat.le_refl q) σ1 _ q 0 (fun _ => .bad) (by omega) (by rw [h0]; simpa using h)
  have := draw_quiet (ro := σ.cur.map e.ρ) hok hql (σ := σ1) (vals := vals) (Q := fun x a' w' => ∃ σ' e', Φ x σ' ∧ σ'.cur = σ.cur ∧ RSt G σ' a' w' e' ∧ Ext σ.H w e σ'.H w' e') (w0 := w) (e0 := e)
    (by simp only [σ1, List.map_map]; exact List.map_congr_left fun v _ => demote_demote _ v)
    (fun j o hj ho => hv j o (by omega) hj ho) hk (fun σ' a' w' e' h1 h2 h3 h4 => ⟨σ', e', h1, h2, h3, h4⟩)
    ops.size (Array.replicate ops.size false) a w.drew e (by simp) (fun j _ hj => by
      have hj' : j < ops.size := by simpa using hj
      simp [hj']) (fun i o hi hL => by
      exfalso
      have hi' : i < ops.size := by have := (List.getElem?_eq_some_iff.1 hi).1; simpa using this
      simp [hi'] at hL) (by simp) (by
      have : (fun j => (Array.replicate ops.size false).getD j false) = fun j => decide (j < 0) := by
        funext j
        simp
        by_cases hj : j < ops.size <;> simp [hj]
      rw [this, h0]
      exact hst2) hx1
  simpa using this

end Go.Abs

/-! Sound15 -/
/- Scope; cutting off what a call has laid for itself; the frame rule. -/
namespace Go.Abs
open Go.RowKit

variable {P : Program} {G : Nat → Option (List V)}

/-! ### scope -/
theorem Rep.scope {w : World} {e : Env} {v : V} {u : Value} (h : Rep w e v u) : VW e.N v v := by
  induction h with
  | im v => exact .im v
  | str l => exact .str l
  | ptr id off hid => exact .ptr id off hid
  | rp cs b o u h1 h2 ih => exact .rp cs
  | nil es fl => exact .dat _ _ _
  | nul es fl a => exact .dat _ _ _
  | dat es rows fl => exact .dat _ _ _
  | arr id es len cap hid h => exact .arr id es len hid
  | fn f first caps first' caps' hl1 hl2 h1 h2 ih1 ih2 =>
    refine .fn f first caps (fun i v hv => ?_) (fun i v hv => ?_)
    · have hi : i < first'.size := by have := (List.getElem?_eq_some_iff.1 hv).1; omega
      exact ih1 i v _ hv (Array.getElem?_eq_getElem hi)
    · have hi : i < caps'.size := by have := (List.getElem?_eq_some_iff.1 hv).1; omega
      exact ih2 i v _ hv (Array.getElem?_eq_getElem hi)
  | mp id hid => exact .mp id hid
  | yld id hid => exact .yld id hid
  | agg cs us hl h ih =>
    refine .agg cs cs rfl fun i v v' hv hv' => ?_
    rw [hv] at hv'; cases hv'
    have hi : i < us.size := by have := (List.getElem?_eq_some_iff.1 hv).1; omega
    exact ih i v _ hv (Array.getElem?_eq_getElem hi)
  | tup cs us hl h ih =>
    refine .tup cs cs rfl fun i v v' hv hv' => ?_
    rw [hv] at hv'; cases hv'
    have hi : i < us.size := by have := (List.getElem?_eq_some_iff.1 hv).1; omega
    exact ih i v _ hv (Array.getElem?_eq_getElem hi)
  | bad v => exact .bad _

theorem VWs.self {n : Nat} : ∀ {vs : List V}, (∀ (i : Nat) (v : V), vs[i]? = some v → VW n v v) → VWs n vs vs
  | [], _ => .nil
  | _ :: _, h => .cons (h 0 _ rfl) (VWs.self fun i v hv => h (i + 1) v (by simpa using hv))

theorem RepBlk.scope {w : World} {e : Env} {r : Nat} {b : Blk} (h : RepBlk w e r b) : BW e.N (some b) (some b) := by
  cases h with
  | cells t vs cs hb hl hh =>
    refine .cells t vs vs (.self fun i v hv => ?_)
    have hi : i < cs.size := by have := (List.getElem?_eq_some_iff.1 hv).1; omega
    exact (hh i v _ hv (Array.getElem?_eq_getElem hi)).1.scope
  | iter k since stepped seen hb hd => exact .iter k since stepped seen hd
  | map es ms c hb hl hk hh =>
    have one : ∀ (i : Nat) (x : V × V), es[i]? = some x → VW e.N x.1 x.1 ∧ VW e.N x.2 x.2 := fun i x hx => by
      have hi : i < ms.size := by have := (List.getElem?_eq_some_iff.1 hx).1; omega
      have := hh i x _ hx (Array.getElem?_eq_getElem hi)
      exact ⟨this.1.scope, this.2.scope⟩
    refine .map es es c (.self fun i v hv => ?_) (.self fun i v hv => ?_)
    · rw [List.getElem?_map] at hv
      obtain ⟨x, hx, rfl⟩ := Option.map_eq_some_iff.1 hv
      exact (one i x hx).1
    · rw [List.getElem?_map] at hv
      obtain ⟨x, hx, rfl⟩ := Option.map_eq_some_iff.1 hv
      exact (one i x hx).2
  | defd hb => exact .defd
  | loop st pend fn tmps ps a b d us hb hd hl hh =>
    refine .loop st pend tmps tmps ps a b d (.self fun i v hv => ?_) hd
    have hi : i < us.size := by have := (List.getElem?_eq_some_iff.1 hv).1; omega
    exact (hh i v _ hv (Array.getElem?_eq_getElem hi)).scope

/-- No block of a heap names one beyond it. -/
def Scoped (H : Heap) : Prop := ∀ (id : Nat) (b : Blk), H[id]? = some (some b) → BW H.length (some b) (some b)

theorem RHeap.inScope {H : Heap} {w : World} {e : Env} (h : RHeap G H w e) : Scoped H := fun id b hb => by
  rw [← h.len]
  exact (h.blk id b hb).scope

theorem BWs.of {n : Nat} : ∀ {H' H : Heap}, (∀ (i : Nat) (y : Option Blk), H'[i]? = some y → ∃ x, H[i]? = some x ∧ BW n x y) → BWs n H H'
  | [], H, _ => .nil H
  | y :: H', [], h => by
    obtain ⟨x, hx, _⟩ := h 0 y rfl
    simp at hx
  | y :: H', x :: H, h => by
    obtain ⟨x', hx, hb⟩ := h 0 y rfl
    simp at hx
    subst hx
    exact .cons hb (BWs.of fun i y hy => by
      obtain ⟨x, hx, hb⟩ := h (i + 1) y (by simpa using hy)
      exact ⟨x, by simpa using hx, hb⟩)

/-! ### cutting off -/
/-- A heap whose first blocks are H1; all that these name is there. -/
def Cut (n : Nat) (H H' H1 : Heap) : Prop := ∃ X, H' = H1 ++ X ∧ H1.length = n ∧ ∀ (id : Nat) (b : Blk), H1[id]? = some (some b) → H[id]? = some (some b) ∨ BW n (some b) (some b)

theorem cut_post {H H' H1 : Heap} {w w' : World} {e e' : Env} {r : V} {v : Value} (hR : RHeap G H w e) (hc : Cut H.length H H' H1) (hr : VW H.length r r) (hR' : RHeap G H' w' e') (hv : RepF w' e' r v) (hx : Ext H w e H' w' e') :
    RHeap G H1 w' (e'.cutTo H.length) ∧ RepF w' (e'.cutTo H.length) r v ∧ Ext H w e H1 w' (e'.cutTo H.length) := by
  obtain ⟨X, rfl, hl, hsc⟩ := hc
  have hb : BWs H1.length (H1 ++ X) H1 := BWs.of fun i y hy => by
    refine ⟨y, by rw [List.getElem?_append_left (List.getElem?_eq_some_iff.1 hy).1]; exact hy, ?_⟩
    cases y with
    | none => exact .drop _
    | some b =>
      rw [hl]
      rcases hsc i b hy with h | h
      · exact hR.inScope i b h
      · exact h
  obtain ⟨h1, h2⟩ := hR'.cutTo hb
  have hn : H1.length ≤ e'.N := by rw [hR'.len]; simp
  rw [hl] at h1 hn
  exact ⟨h1, hr.repF hn hv, ⟨hx.os, hx.tape, hx.output, hx.size, by omega, hx.ρ, fun id h3 h4 => hx.new id h3 (h2 id h4), fun id h3 h4 => hx.old id h3 (h2 id h4), hx.ro, hx.roNew, hx.spNew, hx.cell, hx.block⟩⟩

theorem StCall.cut {f : FuncId} {args : List V} {H : Heap} {Ψ : V → Heap → Prop} (h : StCall P G f args H fun r H' => ∃ H1, Cut H.length H H' H1 ∧ VW H.length r r ∧ Ψ r H1) : StCall P G f args H Ψ := by
  intro w e us hR hargs
  refine CallsIn.mono (h w e us hR hargs) ?_
  rintro en w' ⟨v, r, H', e', rfl, ⟨H1, hc, hr, hΨ⟩, hR', hv, hx⟩
  obtain ⟨h1, h2, h3⟩ := cut_post hR hc hr hR' hv hx
  exact ⟨v, r, H1, _, rfl, hΨ, h1, h2, h3⟩

theorem StYield.mono {id : Nat} {args : List V} {H : Heap} {Ψ Ψ' : V → Heap → Prop} (h : StYield P G id args H Ψ) (hm : ∀ r H', Ψ r H' → Ψ' r H') : StYield P G id args H Ψ' := by
  intro w e us hR hargs
  obtain ⟨r, w1, l, f, tmps, as, bd, h1, h2, h3, h4⟩ := h w e us hR hargs
  refine ⟨r, w1, l, f, tmps, as, bd, h1, h2, h3, RoundIn.mono h4 ?_⟩
  rintro en w' ⟨v, r, H', e', h1, h2, h3⟩
  exact ⟨v, r, H', e', h1, hm _ _ h2, h3⟩

theorem StYield.cut {id : Nat} {args : List V} {H : Heap} {Ψ : V → Heap → Prop} (h : StYield P G id args H fun r H' => ∃ H1, Cut H.length H H' H1 ∧ VW H.length r r ∧ Ψ r H1) : StYield P G id args H Ψ := by
  intro w e us hR hargs
  obtain ⟨r, w1, l, f, tmps, as, bd, h1, h2, h3, h4⟩ := h w e us hR hargs
  refine ⟨r, w1, l, f, tmps, as, bd, h1, h2, h3, RoundIn.mono h4 ?_⟩
  rintro en w' ⟨v, r, H', e', rfl, ⟨H1, hc, hr, hΨ⟩, hR', hv, hx⟩
  obtain ⟨h1, h2, h3⟩ := cut_post hR hc hr hR' hv hx
  exact ⟨v, r, H1, _, rfl, hΨ, h1, h2, h3⟩

theorem StCall.inScope {f : FuncId} {args : List V} {H : Heap} {Ψ : V → Heap → Prop} (h : Scoped H → StCall P G f args H Ψ) : StCall P G f args H Ψ := fun w e us hR => h hR.inScope w e us hR
theorem StYield.inScope {id : Nat} {args : List V} {H : Heap} {Ψ : V → Heap → Prop} (h : Scoped H → StYield P G id args H Ψ) : StYield P G id args H Ψ := fun w e us hR => h hR.inScope w e us hR

/-! ### the frame rule -/
theorem RepBlk.mono2 {w w' : World} {e e' : Env} {r : Nat} {b : Blk} (h : RepBlk w e r b) (hN : e.N ≤ e'.N) (hρ : ∀ id, id < e.N → e'.ρ id = e.ρ id) (hro : ∀ b o, e.RO b o → e'.RO b o ∧ cel w' b o = cel w b o)
    (hsp : ∀ c, b.hasCls c = true → ∀ b o, e.Sp c b o → e'.Sp c b o) (hb : w'.heap[r]? = w.heap[r]?) : RepBlk w' e' r b := by
  cases h with
  | cells t vs cs hb' hl hh =>
    refine .cells t vs cs (hb.trans hb') hl fun i v u hv hu => ⟨(hh i v u hv hu).1.mono' hN hρ hro, (hh i v u hv hu).2.mono fun es rows c hc => hsp c ?_⟩
    subst hc
    simp only [Blk.hasCls, List.any_eq_true]
    exact ⟨_, List.mem_of_getElem? hv, by simp [V.hasCls]⟩
  | iter k since stepped seen hb' hd => exact .iter k since stepped seen (by rw [hρ k hd]; exact hb.trans hb') (by omega)
  | map es ms c hb' hl hk hh => exact .map es ms c (hb.trans hb') hl hk fun i x m hx hm => ⟨(hh i x m hx hm).1.mono' hN hρ hro, (hh i x m hx hm).2.mono' hN hρ hro⟩
  | defd hb' => exact .defd (hb.trans hb')
  | loop st pend fn tmps ps a b d us hb' hd hl hh =>
    exact .loop st pend fn tmps ps a b d us (by rw [hρ d hd]; exact hb.trans hb') (by omega) hl fun i v u hv hu => (hh i v u hv hu).mono' hN hρ hro

theorem hasCls_heap {H : Heap} {id : Nat} {b : Blk} {c : Nat} (h : H[id]? = some (some b)) (hc : b.hasCls c = true) : heapCls H c = true := by
  unfold heapCls
  rw [List.any_eq_true]
  exact ⟨some b, List.mem_of_getElem? h, hc⟩

/-- The environment of the first blocks alone. -/
def Env.first (e : Env) (H : Heap) : Env := { N := H.length, ρ := e.ρ, RO := e.RO, Sp := fun c b o => heapCls H c = true ∧ e.Sp c b o }
/-- Back. -/
def Env.back (e' e : Env) (H : Heap) : Env := { N := e.N, ρ := e.ρ, RO := e'.RO, Sp := fun c b o => e'.Sp c b o ∨ (heapCls H c = false ∧ e.Sp c b o) }

theorem rep_first {w : World} {e : Env} {H : Heap} (hN : H.length ≤ e.N) {v : V} {u : Value} (hs : VW H.length v v) (h : Rep w e v u) : Rep w (e.first H) v u :=
  (hs.rep hN h).mono' (e := e.cutTo H.length) (e' := e.first H) (Nat.le_refl _) (fun _ _ => rfl) fun _ _ h => ⟨h, rfl⟩

theorem RHeap.first {H X : Heap} {w : World} {e : Env} (hR : RHeap G (H ++ X) w e) (hs : Scoped H) : RHeap G H w (e.first H) := by
  have hlen := hR.len
  simp only [List.length_append] at hlen
  have hget : ∀ (id : Nat) (b : Option Blk), H[id]? = some b → (H ++ X)[id]? = some b := fun id b hb => by
    rw [List.getElem?_append_left (List.getElem?_eq_some_iff.1 hb).1]; exact hb
  have hlive : ∀ id, live H id → live (H ++ X) id := fun id ⟨b, hb⟩ => ⟨b, hget id _ hb⟩
  refine ⟨rfl, fun id b hb => ?_, fun i j hi hj => hR.inj i j (hlive i hi) (hlive j hj), hR.ro, fun id o hl => hR.roOwn id o (hlive id hl), fun c b o h => ?_, fun c c' b o h1 h2 => hR.spd c c' b o h1.2 h2.2, fun g cs h => ?_⟩
  · have h1 := (hs id b hb).repBlk (e := e) (by omega) (hR.blk id b (hget id _ hb))
    exact h1.mono2 (e := e.cutTo H.length) (e' := e.first H) (Nat.le_refl _) (fun _ _ => rfl) (fun _ _ h => ⟨h, rfl⟩) (fun c hc b' o h => ⟨hasCls_heap hb hc, h⟩) rfl
  · obtain ⟨h1, h2, h3, h4⟩ := hR.sp c b o h.2
    exact ⟨h1, h2, h3, fun id hl => h4 id (hlive id hl)⟩
  · exact rep_first (by omega) (.rp cs) (hR.glob g cs h)

theorem frame_post {H H' X : Heap} {w w' : World} {e e' : Env} {r : V} {v : Value} (hR : RHeap G (H ++ X) w e) (hX : ∀ c, heapCls X c = true → heapCls H c = false) (hl : H'.length = H.length)
    (hR' : RHeap G H' w' e') (hv : RepF w' e' r v) (hx : Ext H w (e.first H) H' w' e') :
    RHeap G (H' ++ X) w' (e'.back e H) ∧ RepF w' (e'.back e H) r v ∧ Ext (H ++ X) w e (H' ++ X) w' (e'.back e H) := by
  have hlen := hR.len
  simp only [List.length_append] at hlen
  have hlen' := hR'.len
  have hρ : ∀ id, id < e'.N → (e'.back e H).ρ id = e'.ρ id := fun id hid => (hx.ρ id (by omega)).symm
  have hgetH : ∀ (id : Nat) (b : Option Blk), H[id]? = some b → (H ++ X)[id]? = some b := fun id b hb => by
    rw [List.getElem?_append_left (List.getElem?_eq_some_iff.1 hb).1]; exact hb
  have hliveH : ∀ id, live H id → live (H ++ X) id := fun id ⟨b, hb⟩ => ⟨b, hgetH id _ hb⟩
  -- blocks of the new heap
  have hcase : ∀ id b, (H' ++ X)[id]? = some (some b) → (id < H.length ∧ H'[id]? = some (some b)) ∨ (H.length ≤ id ∧ (H ++ X)[id]? = some (some b)) := by
    intro id b hb
    by_cases hid : id < H'.length
    · rw [List.getElem?_append_left hid] at hb
      exact .inl ⟨by omega, hb⟩
    · rw [List.getElem?_append_right (by omega), hl] at hb
      exact .inr ⟨by omega, by rw [List.getElem?_append_right (by omega)]; exact hb⟩
  have hlive : ∀ id, live (H' ++ X) id → live (H ++ X) id ∧ ((id < H.length ∧ live H' id) ∨ (H.length ≤ id ∧ ¬ live H id)) := by
    rintro id ⟨b, hb⟩
    rcases hcase id b hb with ⟨h1, h2⟩ | ⟨h1, h2⟩
    · exact ⟨hliveH id (hx.old id h1 ⟨b, h2⟩), .inl ⟨h1, b, h2⟩⟩
    · exact ⟨⟨b, h2⟩, .inr ⟨h1, fun h => by have := live_lt h; omega⟩⟩
  -- what is the frame's own is not touched
  have hnown : ∀ id, live (H ++ X) id → H.length ≤ id → ∀ id', live H id' → e.ρ id' ≠ e.ρ id := fun id h1 h2 id' h3 he => by
    have := hR.inj id' id (hliveH id' h3) h1 he
    have := live_lt h3
    omega
  have hnsp : ∀ id, live (H ++ X) id → ∀ c o, ¬ (e.first H).Sp c (e.ρ id) o := fun id h1 c o h => (hR.sp c _ o h.2).2.2.2 id h1 rfl
  have hblk : ∀ id, live (H ++ X) id → H.length ≤ id → w'.heap[e.ρ id]? = w.heap[e.ρ id]? := fun id h1 h2 => hx.block _ (hR.liveLt h1) (hnown id h1 h2) (hnsp id h1)
  have hRf : ∀ b o, e.RO b o → e'.RO b o ∧ cel w' b o = cel w b o := by
    intro b o h
    refine ⟨hx.ro b o h, (hx.cell b o (lt_of_cel (hR.ro b o h)) (fun id hid he => ?_) fun c hc => ?_).1⟩
    · exact hR.roOwn id o (hliveH id hid) (he ▸ h)
    · exact (hR.sp c b o hc.2).2.2.1 h
  have hroN : ∀ id o, live (H ++ X) id → H.length ≤ id → ¬ e'.RO (e.ρ id) o := by
    intro id o h1 h2 h
    rcases hx.roNew _ _ h with h | h | ⟨c, h⟩ | ⟨id', h3, h4⟩
    · exact hR.roOwn id o h1 h
    · have := hR.liveLt h1; omega
    · exact hnsp id h1 c o h
    · exact hnown id h1 h2 id' h3 h4
  have hspOld : ∀ c b o, heapCls H c = false → e.Sp c b o → (∀ c', ¬ (e.first H).Sp c' b o) := by
    intro c b o hc h c' h'
    have := hR.spd c c' b o h h'.2
    subst this
    rw [h'.1] at hc
    cases hc
  refine ⟨⟨by show e.N = _; simp; omega, fun id b hb => ?_, fun i j hi hj he => ?_, hR'.ro, fun id o hli h => ?_, fun c b o h => ?_, fun c c' b o h1 h2 => ?_, fun g cs h => ?_⟩, ?_, ?_⟩
  · rcases hcase id b hb with ⟨h1, h2⟩ | ⟨h1, h2⟩
    · have := hR'.blk id b h2
      rw [hx.ρ id h1] at this
      exact this.mono2 (e' := e'.back e H) (by show e'.N ≤ e.N; omega) hρ (fun b o h => ⟨h, rfl⟩) (fun c _ b o h => .inl h) rfl
    · have := hR.blk id b h2
      refine this.mono2 (e' := e'.back e H) (Nat.le_refl _) (fun _ _ => rfl) hRf (fun c hc b' o h => .inr ⟨hX c ?_, h⟩) (hblk id ⟨b, h2⟩ h1)
      rw [List.getElem?_append_right h1] at h2
      exact hasCls_heap h2 hc
  · exact hR.inj i j (hlive i hi).1 (hlive j hj).1 he
  · obtain ⟨h1, h2⟩ := hlive id hli
    rcases h2 with ⟨h2, h3⟩ | ⟨h2, _⟩
    · refine hR'.roOwn id o h3 ?_
      rw [hx.ρ id h2]
      exact h
    · exact hroN id o h1 h2 h
  · rcases h with h | ⟨hc, h⟩
    · obtain ⟨h1, h2, h3, h4⟩ := hR'.sp c b o h
      refine ⟨h1, h2, h3, fun id hli he => ?_⟩
      obtain ⟨h5, h6⟩ := hlive id hli
      rcases h6 with ⟨h6, h7⟩ | ⟨h6, _⟩
      · exact h4 id h7 ((hx.ρ id h6).trans he)
      · rcases hx.spNew c b o h with h8 | ⟨c', h8⟩
        · have := hR.liveLt h5
          change e.ρ id = b at he
          omega
        · exact (hR.sp c' b o h8.2).2.2.2 id h5 he
    · obtain ⟨h1, h2, h3, h4⟩ := hR.sp c b o h
      have hlt := lt_of_cel h1
      have hcell := hx.cell b o hlt (fun id hid => h4 id (hliveH id hid)) (hspOld c b o hc h)
      refine ⟨by rw [hcell.1]; exact h1, by rw [hcell.2]; exact h2, fun h5 => ?_, fun id hli => h4 id (hlive id hli).1⟩
      rcases hx.roNew _ _ h5 with h6 | h6 | ⟨c', h6⟩ | ⟨id', h6, h7⟩
      · exact h3 h6
      · omega
      · exact hspOld c b o hc h c' h6
      · exact h4 id' (hliveH id' h6) h7
  · have cross : ∀ c c', e'.Sp c b o → heapCls H c' = false → e.Sp c' b o → c = c' := by
      intro c c' h1 hc h2
      rcases hx.spNew c b o h1 with h3 | ⟨c'', h3⟩
      · have := lt_of_cel (hR.sp c' b o h2).1; omega
      · exact absurd h3 (hspOld c' b o hc h2 c'')
    rcases h1 with h1 | ⟨hc1, h1⟩ <;> rcases h2 with h2 | ⟨hc2, h2⟩
    · exact hR'.spd c c' b o h1 h2
    · exact cross c c' h1 hc2 h2
    · exact (cross c' c h2 hc1 h1).symm
    · exact hR.spd c c' b o h1 h2
  · exact (hR'.glob g cs h).mono' (e' := e'.back e H) (by show e'.N ≤ e.N; omega) hρ fun b o h => ⟨h, rfl⟩
  · exact ⟨hv.1.mono' (e' := e'.back e H) (by show e'.N ≤ e.N; omega) hρ fun b o h => ⟨h, rfl⟩, hv.2.mono fun _ _ c _ b o h => .inl h⟩
  · refine ⟨hx.os, hx.tape, hx.output, hx.size, by simp [hl], fun _ _ => rfl, fun id h1 h2 => ?_, fun id _ h2 => (hlive id h2).1, hx.ro, fun b o h => ?_, fun c b o h => ?_, fun b o hb h1 h2 => ?_, fun b hb h1 h2 => ?_⟩
    · have := live_lt h2
      simp [hl] at this h1
      omega
    · rcases hx.roNew b o h with h1 | h1 | ⟨c, h1⟩ | ⟨id, h1, h2⟩
      · exact .inl h1
      · exact .inr (.inl h1)
      · exact .inr (.inr (.inl ⟨c, h1.2⟩))
      · exact .inr (.inr (.inr ⟨id, hliveH id h1, h2⟩))
    · rcases h with h | ⟨_, h⟩
      · rcases hx.spNew c b o h with h1 | ⟨c', h1⟩
        · exact .inl h1
        · exact .inr ⟨c', h1.2⟩
      · exact .inr ⟨c, h⟩
    · exact hx.cell b o hb (fun id hid => h1 id (hliveH id hid)) fun c hc => h2 c hc.2
    · exact hx.block b hb (fun id hid => h1 id (hliveH id hid)) fun c o hc => h2 c o hc.2

theorem reps_first {w : World} {e : Env} {H : Heap} (hN : H.length ≤ e.N) {vs : List V} {us : List Value} (ha : ∀ v ∈ vs, VW H.length v v ∧ v.strip = v) (h : Reps w e vs us) : Reps w (e.first H) vs us :=
  ⟨h.1, fun i v u hv hu => by
    obtain ⟨h1, h2⟩ := ha v (List.mem_of_getElem? hv)
    have := (rep_first hN h1 (h.2 i v u hv hu).1).strip
    rwa [h2] at this⟩

/-- What a call doesn't know of stays as it is. -/
theorem StCall.frame {f : FuncId} {args : List V} {H : Heap} {Ψ : V → Heap → Prop} (X : Heap) (hs : Scoped H) (ha : ∀ v ∈ args, VW H.length v v ∧ v.strip = v) (hX : ∀ c, heapCls X c = true → heapCls H c = false)
    (h : StCall P G f args H fun r H' => H'.length = H.length ∧ Ψ r H') : StCall P G f args (H ++ X) fun r H'' => ∃ H', H'' = H' ++ X ∧ H'.length = H.length ∧ Scoped H' ∧ Ψ r H' := by
  intro w e us hR hargs
  have hN : H.length ≤ e.N := by rw [hR.len]; simp
  refine CallsIn.mono (h w _ us (hR.first hs) (reps_first hN ha hargs)) ?_
  rintro en w' ⟨v, r, H', e', rfl, ⟨hl, hΨ⟩, hR', hv, hx⟩
  obtain ⟨h1, h2, h3⟩ := frame_post hR hX hl hR' hv hx
  exact ⟨v, r, _, _, rfl, ⟨H', rfl, hl, hR'.inScope, hΨ⟩, h1, h2, h3⟩

theorem StYield.frame {id : Nat} {args : List V} {H : Heap} {Ψ : V → Heap → Prop} (X : Heap) (hs : Scoped H) (ha : ∀ v ∈ args, VW H.length v v ∧ v.strip = v) (hX : ∀ c, heapCls X c = true → heapCls H c = false)
    (h : StYield P G id args H fun r H' => H'.length = H.length ∧ Ψ r H') : StYield P G id args (H ++ X) fun r H'' => ∃ H', H'' = H' ++ X ∧ H'.length = H.length ∧ Scoped H' ∧ Ψ r H' := by
  intro w e us hR hargs
  have hN : H.length ≤ e.N := by rw [hR.len]; simp
  obtain ⟨r, w1, l, f, tmps, as, bd, h1, h2, h3, h4⟩ := h w _ us (hR.first hs) (reps_first hN ha hargs)
  refine ⟨r, w1, l, f, tmps, as, bd, h1, h2, h3, RoundIn.mono h4 ?_⟩
  rintro en w' ⟨v, r, H', e', rfl, ⟨hl, hΨ⟩, hR', hv, hx⟩
  obtain ⟨h1, h2, h3⟩ := frame_post hR hX hl hR' hv hx
  exact ⟨v, r, _, _, rfl, ⟨H', rfl, hl, hR'.inScope, hΨ⟩, h1, h2, h3⟩

end Go.Abs

/-! Sound16 -/
/- Iterators, and ranges over them. -/
namespace Go.Abs
open Go.RowKit

variable {P : Program} {G : Nat → Option (List V)}

theorem Weak.cutH {σ : St} {H X : Heap} (vs' : List V) (hH : σ.H = H ++ X) (hs : Scoped H) (ht : VWs H.length σ.tmps vs') (hd : ∀ id ∈ σ.defs, id < H.length) (hc : ∀ id, σ.cur = some id → id < H.length) :
    Weak G σ { σ with tmps := vs', H := H } := by
  refine Weak.mk' vs' H ht ?_ hd hc
  rw [hH]
  refine BWs.of fun i y hy => ⟨y, by rw [List.getElem?_append_left (List.getElem?_eq_some_iff.1 hy).1]; exact hy, ?_⟩
  cases y with
  | none => exact .drop _
  | some b => exact hs i b hy

/-- A function that yields these, one after the other; K: what it leans on in the heap. -/
def IterOf (P : Program) (G : Nat → Option (List V)) (f : FuncId) (pre caps : List V) (items : List (List V)) (K : Heap → Prop) : Prop :=
  ∀ (id n : Nat) (Inv : Nat → Heap → Prop) (Fin : Heap → Prop) (H : Heap),
    (∀ i H', Inv i H' → H'.length = n ∧ id < n ∧ K H') →
    (∀ H', Fin H' → H'.length = n) →
    (∀ (i : Nat) (x : List V) (H' : Heap), items[i]? = some x → Inv i H' → Scoped H' → StYield P G id x H' fun r H'' => H''.length = H'.length ∧ ((r = .bool true ∧ Inv (i + 1) H'') ∨ (r = .bool false ∧ Fin H''))) →
    (∀ H', Inv items.length H' → Fin H') → Inv 0 H →
    StCall P G f ((pre ++ [V.yld id] ++ caps).map V.strip) H fun _ H' => Fin H'

/-- The heap in which a loop's rounds run. -/
def loopH (st : LoopState) (H : Heap) (T : List V) (ps : Array Tmp) (as bd : Code) : Heap := H ++ [some .defd, some (.loop st none T ps as bd H.length)]

/-- What a round's body owes. -/
def bodyΦ (σ : St) (H : Heap) (ps : Array Tmp) (as bd : Code) (Jn : Heap → Prop) (Φ : Exit → St → Prop) (x : Exit) (σ2 : St) : Prop :=
  ∃ H2 X, σ2.H = loopH .busy H2 (σ.tmps.map V.strip) ps as bd ++ X ∧ H2.length = σ.H.length ∧
    (∀ (id : Nat) (b : Blk), H2[id]? = some (some b) → H[id]? = some (some b) ∨ BW (σ.H.length + 2) (some b) (some b)) ∧
    match x with
    | .normal => Jn H2
    | .ret | .exit _ | .goto _ => Φ x { σ with tmps := σ.tmps.map V.strip, H := H2 ++ [some .defd, none], defs := σ.H.length :: σ.defs }
    | _ => False

theorem get_app {α : Type} (H L : List α) (k : Nat) : (H ++ L)[H.length + k]? = L[k]? := by
  rw [List.getElem?_append_right (by omega)]
  congr 1
  omega

theorem set_app {α : Type} (H L : List α) (k : Nat) (x : α) : (H ++ L).set (H.length + k) x = H ++ L.set k x := by
  rw [List.set_append_right _ _ (by omega)]
  congr 2
  omega

/-- A range over an iterator. -/
theorem wpc_rangeIterW {f : Operand} {ps : Array Tmp} {as bd : Code} {Φ : Exit → St → Prop} {σ : St} {g : FuncId} {fn : Func} {first caps : List V} {items : List (List V)} {K : Heap → Prop}
    (it : IterOf P G g first caps items K) (hcur : σ.cur = none) (hf : σ.ev f = .fn (.func g) first caps) (hfn : P.funcs[g]? = some fn) (hbody : fn.body.isSome) (hname : (fn.name == "runtime.NumGoroutine") = false)
    (J : Nat → Heap → Prop) (h0 : J 0 σ.H) (hlen : ∀ i H, J i H → H.length = σ.H.length)
    (hK : ∀ i H, J i H → K (loopH .ready H (σ.tmps.map V.strip) ps as bd))
    (hps : ∀ x ∈ items, x.length = ps.size)
    (round : ∀ (i : Nat) (x : List V) (H : Heap), items[i]? = some x → J i H → H.length = σ.H.length → Scoped (loopH .ready H (σ.tmps.map V.strip) ps as bd) →
      WPc P G as (fun ex σ1 => ex = .normal ∧ σ1.H[H.length + 1]? = some (some (.loop .ready none (σ.tmps.map V.strip) ps as bd H.length)) ∧
          WPc P G bd (bodyΦ σ H ps as bd (J (i + 1)) Φ) { σ1 with H := σ1.H.set (H.length + 1) (some (.loop .busy none (σ.tmps.map V.strip) ps as bd H.length)) })
        { tmps := setParams ps.toList x (σ.tmps.map V.strip), H := loopH .ready H (σ.tmps.map V.strip) ps as bd, defs := [], cur := some (H.length + 1) })
    (hfin : ∀ H, J items.length H → Φ .normal { σ with tmps := σ.tmps.map V.strip, H := H ++ [some .defd, none], defs := σ.H.length :: σ.defs }) :
    WPc P G (.rangeFunc f ps as bd) Φ σ := by
  refine wpc_rangeFunc hcur hf hfn hbody hname ?_
  have hstrip : ∀ T : List V, (T.map V.strip).map V.strip = T.map V.strip := fun T => by
    rw [List.map_map]
    exact List.map_congr_left fun v _ => by simp [strip_eq, demote_demote]
  have hH0 : σ.H ++ [some Blk.defd] ++ [some (Blk.loop .ready none (σ.tmps.map V.strip) ps as bd σ.H.length)] = loopH .ready σ.H (σ.tmps.map V.strip) ps as bd := by simp [loopH]
  rw [hH0]
  have hget : ∀ (st : LoopState) (H : Heap), (loopH st H (σ.tmps.map V.strip) ps as bd)[H.length + 1]? = some (some (.loop st none (σ.tmps.map V.strip) ps as bd H.length)) := fun st H => by
    unfold loopH
    rw [get_app]
    rfl
  refine (it (σ.H.length + 1) (σ.H.length + 2) (fun i H' => ∃ H, J i H ∧ H' = loopH .ready H (σ.tmps.map V.strip) ps as bd)
    (fun H' => H'.length = σ.H.length + 2 ∧ rangeΦ P G (σ.H.length + 1) σ (σ.H.length :: σ.defs) Φ H') _ ?_ (fun H' h => h.1) ?_ ?_ ⟨_, h0, rfl⟩).mono fun _ _ h => h.2
  · rintro i H' ⟨H, hJ, rfl⟩
    refine ⟨?_, by omega, hK i H hJ⟩
    simp [loopH, hlen i H hJ]
  · rintro i x H' hx ⟨H, hJ, rfl⟩ hs
    have hl := hlen i H hJ
    refine StYield.cut ?_
    rw [← hl]
    have hr := round i x H hx hJ hl hs
    refine stYield (hget .ready H) (hps x (List.mem_of_getElem? hx)) ?_
    rw [hstrip]
    refine hr.mono ?_
    rintro ex σ1 ⟨h1, h2, h3⟩
    refine ⟨h1, h2, h3.mono ?_⟩
    rintro ex2 σ2 ⟨H2, X, hσ2, hl2, hsc, hex⟩
    have hg2 : σ2.H[H.length + 1]? = some (some (.loop .busy none (σ.tmps.map V.strip) ps as bd H2.length)) := by
      rw [hσ2, List.getElem?_append_left (by simp [loopH]; omega), hl, ← hl2]
      exact hget .busy H2
    have hset : ∀ (st : LoopState) (pend : Option Code), σ2.H.set (H.length + 1) (some (.loop st pend (σ.tmps.map V.strip) ps as bd H2.length)) =
        (H2 ++ [some .defd, some (.loop st pend (σ.tmps.map V.strip) ps as bd H2.length)]) ++ X := by
      intro st pend
      rw [hσ2, List.set_append_left _ _ (by simp [loopH]; omega), hl, ← hl2]
      unfold loopH
      rw [set_app]
      rfl
    have hcut : ∀ (st : LoopState) (pend : Option Code), Cut (loopH .ready H (σ.tmps.map V.strip) ps as bd).length (loopH .ready H (σ.tmps.map V.strip) ps as bd) (σ2.H.set (H.length + 1) (some (.loop st pend (σ.tmps.map V.strip) ps as bd H2.length)))
        (H2 ++ [some .defd, some (.loop st pend (σ.tmps.map V.strip) ps as bd H2.length)]) := by
      intro st pend
      have hL : (loopH .ready H (σ.tmps.map V.strip) ps as bd).length = σ.H.length + 2 := by simp [loopH, hl]
      refine ⟨X, hset st pend, by simp [hL, hl2], fun id b hb => ?_⟩
      by_cases hid : id < H2.length
      · rw [List.getElem?_append_left hid] at hb
        rw [hL]
        rcases hsc id b hb with h | h
        · exact .inl (by unfold loopH; rw [List.getElem?_append_left (by omega)]; exact h)
        · exact .inr h
      · obtain ⟨k, rfl⟩ : ∃ k, id = H2.length + k := ⟨id - H2.length, by omega⟩
        rw [get_app] at hb
        match k, hb with
        | 0, hb =>
          simp at hb
          subst hb
          exact .inr .defd
        | 1, hb =>
          simp at hb
          subst hb
          right
          have := hs (H.length + 1) _ (hget .ready H)
          cases this with
          | loop _ _ _ _ _ _ _ _ h hd => exact .loop _ _ _ _ _ _ _ _ h (by rw [hL]; omega)
        | k + 2, hb => simp at hb
    unfold roundΦ
    rw [hg2]
    simp only
    have hsetN : ∀ b : Option Blk, (H2 ++ [some Blk.defd, b]).set (σ.H.length + 1) none = H2 ++ [some .defd, none] := fun b => by
      rw [← hl2, set_app]
      rfl
    have hgetN : ∀ b : Blk, (H2 ++ [some Blk.defd, some b])[σ.H.length + 1]? = some (some b) := fun b => by
      rw [← hl2, get_app]
      rfl
    cases ex2 with
    | normal =>
      refine ⟨_, hcut .ready none, .im _, ?_, .inl ⟨trivial, H2, hex, rfl⟩⟩
      simp [loopH, hl2, hl]
    | ret =>
      refine ⟨_, hcut .done (some .ret), .im _, by simp [loopH, hl2, hl], .inr ⟨trivial, by simp [hl2, hl], ?_⟩⟩
      unfold rangeΦ
      rw [hl, hgetN]
      simp only [hsetN, evCode]
      exact ⟨by simp, hex⟩
    | exit j =>
      refine ⟨_, hcut .done (some (.exit j)), .im _, by simp [loopH, hl2, hl], .inr ⟨trivial, by simp [hl2, hl], ?_⟩⟩
      unfold rangeΦ
      rw [hl, hgetN]
      simp only [hsetN, evCode]
      exact ⟨by simp, hex⟩
    | goto l =>
      refine ⟨_, hcut .done (some (.goto l)), .im _, by simp [loopH, hl2, hl], .inr ⟨trivial, by simp [hl2, hl], ?_⟩⟩
      unfold rangeΦ
      rw [hl, hgetN]
      simp only [hsetN, evCode]
      exact ⟨by simp, hex⟩
    | panic c => exact hex.elim
    | outgrown => exact hex.elim
  · rintro H' ⟨H, hJ, rfl⟩
    have hl := hlen _ H hJ
    refine ⟨by simp [loopH, hl], ?_⟩
    unfold rangeΦ
    rw [← hl, hget .ready H]
    simp only
    refine ⟨by simp, ?_⟩
    have : (loopH .ready H (σ.tmps.map V.strip) ps as bd).set (H.length + 1) none = H ++ [some .defd, none] := by
      unfold loopH
      rw [set_app]
      rfl
    rw [this, hl]
    exact hfin H hJ

end Go.Abs

/-! Ev2 -/
/- The same conditions, laid out so that reduction alone works them out. -/
namespace Go.Abs
open Go.RowKit

/-- A condition that reduction settles. -/
def grd (b : Bool) (p : Prop) : Prop := match b with | true => p | false => False
theorem grd_iff {b : Bool} {p : Prop} : grd b p ↔ b = true ∧ p := by cases b <;> simp [grd]
theorem grd_intro {b : Bool} {p : Prop} (h1 : b = true) (h2 : p) : grd b p := grd_iff.2 ⟨h1, h2⟩

/-- A fork. -/
def br (b : Bool) (p q : Prop) : Prop := match b with | true => p | false => q
theorem br_iff {b : Bool} {p q : Prop} : br b p q ↔ (b = true → p) ∧ (b = false → q) := by cases b <;> simp [br]
theorem br_intro {b : Bool} {p q : Prop} (h1 : b = true → p) (h2 : b = false → q) : br b p q := br_iff.2 ⟨h1, h2⟩

theorem br_t {b : Bool} {p q : Prop} (h : b = true) (hp : p) : br b p q := br_intro (fun _ => hp) (fun h' => by rw [h] at h'; cases h')
theorem br_f {b : Bool} {p q : Prop} (h : b = false) (hq : q) : br b p q := br_intro (fun h' => by rw [h] at h'; cases h') (fun _ => hq)

/-- A value, its head worked out. -/
def force (v : V) (k : V → Prop) : Prop :=
  match v with
  | .im x => k (.im x)
  | .str l => k (.str l)
  | .ptr i o => k (.ptr i o)
  | .rp cs => k (.rp cs)
  | .dat e r f => k (.dat e r f)
  | .arr i e l => k (.arr i e l)
  | .fn f a b => k (.fn f a b)
  | .mp i => k (.mp i)
  | .yld i => k (.yld i)
  | .agg cs => k (.agg cs)
  | .tup vs => k (.tup vs)
  | .bad => k .bad
theorem force_iff {v : V} {k : V → Prop} : force v k ↔ k v := by cases v <;> rfl

structure S2 where
  n : Nat
  base : List V
  upd : List (Nat × V)
  H : Heap
  defs : List Nat
  cur : Option Nat

def app : List (Nat × V) → List V → List V
  | [], b => b
  | (d, v) :: r, b => (app r b).set d v

def S2.st (s : S2) : St := { tmps := app s.upd s.base, H := s.H, defs := s.defs, cur := s.cur }

def S2.setH (s : S2) (H : Heap) : S2 := match s with | ⟨n, b, u, _, d, c⟩ => ⟨n, b, u, H, d, c⟩
theorem S2.setH_eq (s : S2) (H : Heap) : s.setH H = { s with H := H } := by cases s; rfl

theorem S2.setH_H (s : S2) (H : Heap) : (s.setH H).H = H := by cases s; rfl

structure S2.Wf (s : S2) : Prop where
  n : s.n ≤ s.base.length
  d : ∀ x ∈ s.upd, x.1 < s.base.length

def look : List (Nat × V) → List V → Nat → V
  | [], b, t => b.getD t .bad
  | (d, v) :: r, b, t => match Nat.beq d t with | true => v | false => look r b t

theorem app_length : ∀ (u : List (Nat × V)) (b : List V), (app u b).length = b.length
  | [], _ => rfl
  | _ :: r, b => by simp [app, app_length r b]

theorem look_eq (n : Nat) (b : List V) (hn : n ≤ b.length) (t : Nat) : ∀ u : List (Nat × V), (∀ x ∈ u, x.1 < n) → (app u b).getD t .bad = look u b t
  | [], _ => rfl
  | (d, v) :: r, h => by
    have hd : d < n := h (d, v) (by simp)
    have ih := look_eq n b hn t r fun x hx => h x (by simp [hx])
    simp only [app, look]
    by_cases he : d = t
    · subst he
      rw [Nat.beq_refl, List.getD_eq_getElem?_getD, List.getElem?_set_self (by rw [app_length]; omega)]
      rfl
    · have : Nat.beq d t = false := by
        cases hb : Nat.beq d t with
        | false => rfl
        | true => exact absurd (Nat.eq_of_beq_eq_true hb) he
      rw [this, List.getD_eq_getElem?_getD, List.getElem?_set_ne he, ← List.getD_eq_getElem?_getD]
      exact ih

def S2.ev (s : S2) : Operand → V
  | .tmp t => look s.upd s.base t
  | .const v => absV v
  | .global g => .im (.pointer (some ⟨g, 0, none⟩))
  | .func f => .fn (.func f) [] []

theorem S2.ev_eq {s : S2} (h : s.Wf) (x : Operand) : s.st.ev x = s.ev x := by
  cases x with
  | tmp t => exact look_eq s.base.length s.base (Nat.le_refl _) t s.upd h.d
  | _ => rfl

def V.isCls : V → Bool
  | .dat _ _ (.cls _) => true
  | _ => false

def S2.hasFl (s : S2) : Bool := s.upd.any (fun x => x.2.isCls) || s.base.any V.isCls

def S2.dem (s : S2) (p : Nat → Bool) : S2 := match s.hasFl with
  | false => s
  | true => match s with | ⟨n, b, u, H, d, c⟩ => ⟨n, b.map (V.demote p), u.map fun x => (x.1, V.demote p x.2), H, d, c⟩

theorem demote_plain {v : V} (h : v.isCls = false) (p : Nat → Bool) : V.demote p v = v := by
  cases v with
  | dat es rows fl => cases fl with
    | cls c => simp [V.isCls] at h
    | _ => rfl
  | _ => rfl

theorem app_map (f : V → V) : ∀ (u : List (Nat × V)) (b : List V), app (u.map fun x => (x.1, f x.2)) (b.map f) = (app u b).map f
  | [], _ => rfl
  | _ :: r, b => by simp [app, app_map f r b, List.map_set]

theorem S2.dem_st {s : S2} (p : Nat → Bool) : (s.dem p).st = { s.st with tmps := s.st.tmps.map (V.demote p) } := by
  unfold S2.dem
  split
  · rename_i h
    unfold S2.hasFl at h
    simp only [Bool.or_eq_false_iff] at h
    obtain ⟨h1, h2⟩ := h
    have hb : s.base.map (V.demote p) = s.base := by
      rw [List.any_eq_false] at h2
      refine (List.map_congr_left fun v hv => demote_plain (by simpa using h2 v hv) p).trans ?_
      simp
    have hu : (s.upd.map fun x => (x.1, V.demote p x.2)) = s.upd := by
      rw [List.any_eq_false] at h1
      refine (List.map_congr_left (g := fun x => x) fun x hx => by rw [demote_plain (by simpa using h1 x hx) p]).trans ?_
      simp
    unfold S2.st
    simp only
    rw [← app_map, hb, hu]
  · simp only [S2.st, app_map]

theorem S2.dem_wf {s : S2} (h : s.Wf) (p : Nat → Bool) : (s.dem p).Wf := by
  unfold S2.dem
  split
  · exact h
  · refine ⟨by simpa using h.n, fun x hx => ?_⟩
    simp only [List.mem_map] at hx
    obtain ⟨y, hy, rfl⟩ := hx
    simpa using h.d y hy

/-! ### the conditions -/
def evLoadCells2 (P : Program) (t : TypeId) (vs : List V) (k : V → Prop) : Prop :=
  match tk P t with
  | some (true, n) => grd (Nat.ble n vs.length) (k (.agg (vs.take n)))
  | some (false, _) => match vs with
    | v :: _ => k v
    | [] => False
  | none => False

theorem evLoadCells2_imp {P : Program} {t : TypeId} {vs : List V} {k : V → Prop} (h : evLoadCells2 P t vs k) : evLoadCells P t vs k := by
  unfold evLoadCells2 at h
  unfold evLoadCells
  cases ht : tk P t with
  | none => simp [ht] at h
  | some x =>
    obtain ⟨b, n⟩ := x
    simp only [ht] at h ⊢
    cases b with
    | true => simpa [grd_iff, Nat.ble_eq] using h
    | false => cases vs <;> exact h

def evLoad2 (P : Program) (t : TypeId) (H : Heap) (k : V → Prop) : V → Prop
  | .ptr id off => match H[id]? with
    | some (some (.cells _ vs)) => evLoadCells2 P t (vs.drop off) k
    | _ => False
  | .rp cs => evLoadCells2 P t cs (fun v => k v.strip)
  | _ => False

theorem evLoad2_imp {P : Program} {t : TypeId} {σ : St} {k : V → Prop} {x : V} (h : evLoad2 P t σ.H k x) : evLoad P t σ k x := by
  cases x with
  | ptr id off =>
    simp only [evLoad2] at h
    simp only [evLoad]
    split at h
    · rename_i hH
      simp only [hH]
      exact evLoadCells2_imp h
    · exact h.elim
  | rp cs => exact evLoadCells2_imp (k := fun v => k v.strip) h
  | _ => exact h.elim

def evStore2 (P : Program) (t : TypeId) (H : Heap) (x : V) (k : Heap → Prop) : V → Prop
  | .ptr id off => match H[id]? with
    | some (some (.cells e vs)) => match x.cellsF, tk P t with
      | some cs, some (_, n) => grd (Nat.beq cs.length n && Nat.ble (off + n) vs.length && cs.all V.solid) (k (H.set id (some (.cells e (setRange vs off cs)))))
      | _, _ => False
    | _ => False
  | _ => False

theorem evStore2_imp {P : Program} {t : TypeId} {σ : St} {v : V} {k : St → Prop} {x : V} (h : evStore2 P t σ.H v (fun H => k { σ with H := H }) x) : evStore P t σ v k x := by
  cases x with
  | ptr id off =>
    simp only [evStore2] at h
    simp only [evStore]
    split at h
    · rename_i hH
      simp only [hH]
      split at h
      · rename_i h1 h2
        simp only [h1, h2]
        rw [grd_iff, Bool.and_eq_true, Bool.and_eq_true, Nat.ble_eq, Nat.beq_eq] at h
        exact ⟨h.1.1.1, h.1.1.2, h.1.2, h.2⟩
      · exact h.elim
    · exact h.elim
  | _ => exact h.elim

/-- Parts that lie one behind the other. -/
def catV (place : Nat → Option (Nat × Nat)) : Nat → List (Nat × V) → Option (List V)
  | _, [] => some []
  | off, (i, v) :: rest => match place i, v.cellsF with
    | some (o, size), some cs => match Nat.beq o off && Nat.beq cs.length size with
      | true => (catV place (off + size) rest).map (cs ++ ·)
      | false => none
    | _, _ => none

theorem catV_spec (place : Nat → Option (Nat × Nat)) : ∀ (parts : List (Nat × V)) (off : Nat) (cells cs : List V), catV place off parts = some cs → off + cs.length ≤ cells.length →
    fillV place cells parts = some (cells.take off ++ cs ++ cells.drop (off + cs.length))
  | [], off, cells, cs, h, hl => by
    simp only [catV, Option.some.injEq] at h
    subst h
    simp [fillV]
  | (i, v) :: rest, off, cells, cs, h, hl => by
    simp only [catV] at h
    split at h
    · rename_i o size cs0 hp hc
      split at h
      · rename_i hb
        rw [Bool.and_eq_true, Nat.beq_eq, Nat.beq_eq] at hb
        obtain ⟨rfl, rfl⟩ := hb
        obtain ⟨cs1, h1, rfl⟩ := Option.map_eq_some_iff.1 h
        simp only [List.length_append] at hl
        have hlen : (setRange cells o cs0).length = cells.length := setRange_length (by omega)
        have ih := catV_spec place rest (o + cs0.length) (setRange cells o cs0) cs1 h1 (by omega)
        unfold fillV
        rw [hp, hc]
        simp only
        rw [if_pos (by simp; omega), ih]
        congr 1
        have hto : (List.take o cells).length = o := by simp; omega
        have h2 : (setRange cells o cs0).take (o + cs0.length) = cells.take o ++ cs0 := by
          unfold setRange
          rw [List.take_append_of_le_length (by simp; omega), List.take_of_length_le (by simp; omega)]
        have h3 : (setRange cells o cs0).drop (o + cs0.length + cs1.length) = cells.drop (o + (cs0.length + cs1.length)) := by
          unfold setRange
          have : o + cs0.length + cs1.length = (List.take o cells ++ cs0).length + cs1.length := by simp [hto]
          rw [this, List.drop_append]
          simp only [List.drop_drop]
          have h4 : (List.take o cells ++ cs0).drop ((List.take o cells ++ cs0).length + cs1.length) = [] := List.drop_of_length_le (by omega)
          rw [h4, List.nil_append]
          congr 1
          omega
        rw [h2, h3]
        simp [List.append_assoc]
      · cases h
    · cases h

def evBuild2 (P : Program) (t : TypeId) (parts : List (Nat × V)) (k : V → Prop) : Prop :=
  match placesOf P t, zeroOf P t with
  | some pl, some z => match catV pl 0 parts with
    | some cs => match Nat.beq cs.length z.length with
      | true => k (.agg cs)
      | false => match fillV pl z parts with
        | some cs => k (.agg cs)
        | none => False
    | none => match fillV pl z parts with
      | some cs => k (.agg cs)
      | none => False
  | _, _ => False

theorem evBuild2_imp {P : Program} {t : TypeId} {parts : List (Nat × V)} {k : V → Prop} (h : evBuild2 P t parts k) : evBuild P t parts k := by
  unfold evBuild2 at h
  unfold evBuild
  split at h
  · rename_i pl z h1 h2
    simp only [h1, h2]
    split at h
    · rename_i cs hc
      split at h
      · rename_i hb
        rw [Nat.beq_eq] at hb
        have := catV_spec pl parts 0 z cs hc (by omega)
        rw [this]
        have hd : z.drop (0 + cs.length) = [] := by rw [hb, Nat.zero_add]; exact List.drop_length
        rw [hd]
        simpa using h
      · exact h
    · exact h
  · exact h.elim

def evBuildSlice2 (P : Program) (t : TypeId) (len : Nat) (parts : List (Nat × V)) (k : V → Prop) : Prop :=
  match slOf P t with
  | some (e, n, _) => match zeroOf P e with
    | some z => grd (Nat.beq z.length n && Nat.ble 1 n && Nat.ble (len * n) (2 ^ 24)) (
      match catV (fun i => some (i * n, n)) 0 parts with
      | some cs => match Nat.beq cs.length (len * n) with
        | true => grd (cs.all V.dataCell) (k (.dat n (chunks n len cs) .tight))
        | false => match fillV (fun i => some (i * n, n)) (List.replicate len z).flatten parts with
          | some cs => grd (cs.all V.dataCell) (k (.dat n (chunks n len cs) .tight))
          | none => False
      | none => match fillV (fun i => some (i * n, n)) (List.replicate len z).flatten parts with
        | some cs => grd (cs.all V.dataCell) (k (.dat n (chunks n len cs) .tight))
        | none => False)
    | none => False
  | none => False

theorem evBuildSlice2_imp {P : Program} {t : TypeId} {len : Nat} {parts : List (Nat × V)} {k : V → Prop} (h : evBuildSlice2 P t len parts k) : evBuildSlice P t len parts k := by
  unfold evBuildSlice2 at h
  unfold evBuildSlice
  split at h
  · rename_i e n b h1
    simp only [h1]
    split at h
    · rename_i z h2
      simp only [h2]
      rw [grd_iff, Bool.and_eq_true, Bool.and_eq_true, Nat.ble_eq, Nat.ble_eq, Nat.beq_eq] at h
      refine ⟨h.1.1.1, h.1.1.2, h.1.2, ?_⟩
      have hz := h.1.1.1
      have h := h.2
      have fin : (match fillV (fun i => some (i * n, n)) (List.replicate len z).flatten parts with
        | some cs => grd (cs.all V.dataCell) (k (.dat n (chunks n len cs) .tight))
        | none => False) → (match fillV (fun i => some (i * n, n)) (List.replicate len z).flatten parts with
        | some cs => cs.all V.dataCell = true ∧ k (.dat n (chunks n len cs) .tight)
        | none => False) := by
        intro h
        split at h
        · rename_i h3
          try simp only [h3]
          exact grd_iff.1 h
        · exact h.elim
      split at h
      · rename_i cs hc
        split at h
        · rename_i hb
          rw [Nat.beq_eq] at hb
          have hlz : (List.replicate len z).flatten.length = len * n := by
            rw [List.length_flatten, List.map_replicate, List.sum_replicate_nat, hz]
          have := catV_spec _ parts 0 (List.replicate len z).flatten cs hc (by rw [hlz]; omega)
          rw [this]
          have hd : (List.replicate len z).flatten.drop (0 + cs.length) = [] := by rw [hb, Nat.zero_add, ← hlz]; exact List.drop_length
          rw [hd]
          simpa [grd_iff] using h
        · exact fin h
      · exact fin h
    · exact h.elim
  · exact h.elim

def kindEq (k k' : IntKind) : Bool := decide (k = k')

/-- Two structs or arrays are held against each other: the walk stops here (the kernel would reckon on where the elaborator is stuck). -/
structure EqT (P : Program) (op : BinOp) (t : TypeId) (xs ys : List V) (K : V → Prop) : Prop where
  out : (!P.eqGuardType P.depth t && aggT P t) = true ∧ match flatEq P 50 t with
    | some ks => match cellsEq ks xs ys, op with
      | some b, .eql => K (.bool b)
      | some b, .neq => K (.bool !b)
      | _, _ => False
    | none => False

theorem EqT.eql {P : Program} {t : TypeId} {xs ys : List V} {K : V → Prop} {ks : List CK} {b : Bool} (h1 : (!P.eqGuardType P.depth t && aggT P t) = true) (h2 : flatEq P 50 t = some ks) (h3 : cellsEq ks xs ys = some b) (h : K (.bool b)) : EqT P .eql t xs ys K :=
  ⟨h1, by rw [h2]; simp only; rw [h3]; exact h⟩
theorem EqT.neq {P : Program} {t : TypeId} {xs ys : List V} {K : V → Prop} {ks : List CK} {b : Bool} (h1 : (!P.eqGuardType P.depth t && aggT P t) = true) (h2 : flatEq P 50 t = some ks) (h3 : cellsEq ks xs ys = some b) (h : K (.bool !b)) : EqT P .neq t xs ys K :=
  ⟨h1, by rw [h2]; simp only; rw [h3]; exact h⟩

def evBin2 (P : Program) (op : BinOp) (t : TypeId) (x y : V) (K : V → Prop) : Prop :=
  match x, y with
  | .im (.int k a), .im (.int k' b) =>
    match op with
    | .shl => 0 ≤ b ∧ K (.int k (k.wrap (a * 2 ^ min b.toNat k.bits)))
    | .shr => 0 ≤ b ∧ K (.int k (a.fdiv (2 ^ min b.toNat k.bits)))
    | _ => grd (kindEq k k') (evInt op k a b K)
  | .im (.bool a), .im (.bool b) => match P.underlying t, op with
    | some .bool, .eql => K (.bool (a == b))
    | some .bool, .neq => K (.bool (a != b))
    | _, _ => False
  | .str a, .str b => evStr op a b K
  | .agg xs, .agg ys => EqT P op t xs ys K
  | _, _ => False

theorem evBin2_imp {P : Program} {op : BinOp} {t : TypeId} {x y : V} {K : V → Prop} (h : evBin2 P op t x y K) : evBin P op t x y K := by
  unfold evBin2 at h
  unfold evBin
  split at h
  · split at h
    · exact h
    · exact h
    · rename_i h1 h2
      rw [grd_iff] at h
      have := h.1
      simp only [kindEq, decide_eq_true_eq] at this
      have h2' := h.2
      cases op <;> first | exact (h1 rfl).elim | exact (h2 rfl).elim | exact ⟨this, h2'⟩
  · split at h
    · rename_i hu; exact ⟨hu, h⟩
    · rename_i hu; exact ⟨hu, h⟩
    · exact h.elim
  · exact h
  · have h := h.out
    rw [Bool.and_eq_true] at h
    obtain ⟨⟨h1, h2⟩, h3⟩ := h
    refine ⟨by simpa using h1, ?_⟩
    split at h3
    · rename_i ks hk
      simp only [hk]
      refine ⟨h2, ?_⟩
      split at h3
      · rename_i b hc; simp only [hc]; exact h3
      · rename_i b hc; simp only [hc]; exact h3
      · exact h3.elim
    · exact h3.elim
  · exact h.elim

def evField2 (P : Program) (t : TypeId) (f : Nat) (K : V → Prop) : V → Prop
  | .agg cs => match fieldOf P t f with
    | some (off, ft) => evLoadCells2 P ft (cs.drop off) (fun v => K v.strip)
    | none => False
  | _ => False
theorem evField2_imp {P : Program} {t : TypeId} {f : Nat} {K : V → Prop} {x : V} (h : evField2 P t f K x) : evField P t f K x := by
  cases x with
  | agg cs =>
    simp only [evField2] at h
    simp only [evField]
    split at h
    · rename_i h1
      simp only [h1]
      exact evLoadCells2_imp h
    · exact h.elim
  | _ => exact h.elim

def evFieldAddr2 (P : Program) (t : TypeId) (f : Nat) (K : V → Prop) (x : V) : Prop :=
  match fieldOf P t f with
  | some (fo, ft) => match tk P ft with
    | some (_, n) => grd (Nat.ble 1 n) (match x with
      | .ptr id off => K (.ptr id (off + fo))
      | .rp cs => K (.rp (cs.drop fo))
      | _ => False)
    | none => False
  | none => False
theorem evFieldAddr2_imp {P : Program} {t : TypeId} {f : Nat} {K : V → Prop} {x : V} (h : evFieldAddr2 P t f K x) : evFieldAddr P t f K x := by
  unfold evFieldAddr2 at h
  unfold evFieldAddr
  split at h
  · rename_i h1
    simp only [h1]
    split at h
    · rename_i h2
      simp only [h2]
      rw [grd_iff, Nat.ble_eq] at h
      refine ⟨h.1, ?_⟩
      have h := h.2
      cases x <;> exact h
    · exact h.elim
  · exact h.elim

def optK {α : Type} (o : Option α) (K : α → Prop) : Prop := match o with
  | some b => K b
  | none => False
theorem optK_intro {α : Type} {o : Option α} {K : α → Prop} {b : α} (h : o = some b) (hk : K b) : optK o K := by
  rw [h]; exact hk
theorem optK_elim {α : Type} {o : Option α} {K : α → Prop} (h : optK o K) : ∃ b, o = some b ∧ K b := by
  cases o with
  | none => exact h.elim
  | some b => exact ⟨b, rfl, h⟩

def evIndex2 (P : Program) (t : TypeId) (x i : V) (K : V → Prop) : Prop :=
  match x, i with
  | .agg cs, .im (.int _ n) => match arrOf P t with
    | some (len, e, s) => grd (decide (0 ≤ n) && decide (n < len)) (evLoadCells2 P e (cs.drop (n.toNat * s)) (fun v => K v.strip))
    | none => False
  | .str l, .im (.int _ n) => match P.underlying t with
    | some .string => grd (decide (0 ≤ n)) (optK l[n.toNat]? fun b => K (.int .u8 b.toNat))
    | _ => False
  | _, _ => False
theorem evIndex2_imp {P : Program} {t : TypeId} {x i : V} {K : V → Prop} (h : evIndex2 P t x i K) : evIndex P t x i K := by
  unfold evIndex2 at h
  unfold evIndex
  split at h
  · split at h
    · rename_i h1
      simp only [h1]
      rw [grd_iff, Bool.and_eq_true, decide_eq_true_eq, decide_eq_true_eq] at h
      exact ⟨h.1.1, h.1.2, evLoadCells2_imp h.2⟩
    · exact h.elim
  · split at h
    · rename_i h1
      rw [grd_iff, decide_eq_true_eq] at h
      refine ⟨h1, h.1, ?_⟩
      exact optK_elim h.2
    · exact h.elim
  · exact h.elim

def evIndexAddr2 (P : Program) (t : TypeId) (x i : V) (K : V → Prop) : Prop :=
  match i with
  | .im (.int _ n) => match slOf P t, arrOf P t with
    | some (_, s, _), _ => match x with
      | .dat es rows _ => grd (Nat.beq es s && Nat.ble 1 s && decide (0 ≤ n)) (optK rows[n.toNat]? fun r => K (.rp r))
      | .arr id es len => grd (Nat.beq es s && decide (0 ≤ n) && decide (n < len)) (K (.ptr id (n.toNat * s)))
      | _ => False
    | none, some (len, _, s) => match x with
      | .ptr id off => grd (decide (0 ≤ n) && decide (n < len)) (K (.ptr id (off + n.toNat * s)))
      | .rp cs => grd (decide (0 ≤ n) && decide (n < len)) (K (.rp (cs.drop (n.toNat * s))))
      | _ => False
    | _, _ => False
  | _ => False
theorem evIndexAddr2_imp {P : Program} {t : TypeId} {x i : V} {K : V → Prop} (h : evIndexAddr2 P t x i K) : evIndexAddr P t x i K := by
  unfold evIndexAddr2 at h
  unfold evIndexAddr
  split at h
  · split at h
    · rename_i h1
      simp only [h1]
      split at h
      · rw [grd_iff, Bool.and_eq_true, Bool.and_eq_true, Nat.ble_eq, Nat.beq_eq, decide_eq_true_eq] at h
        exact ⟨h.1.1.1, h.1.1.2, h.1.2, optK_elim h.2⟩
      · rw [grd_iff, Bool.and_eq_true, Bool.and_eq_true, Nat.beq_eq, decide_eq_true_eq, decide_eq_true_eq] at h
        exact ⟨h.1.1.1, h.1.1.2, h.1.2, h.2⟩
      · exact h.elim
    · rename_i h1 h2
      simp only [h1, h2]
      split at h
      · rw [grd_iff, Bool.and_eq_true, decide_eq_true_eq, decide_eq_true_eq] at h
        exact ⟨h.1.1, h.1.2, h.2⟩
      · rw [grd_iff, Bool.and_eq_true, decide_eq_true_eq, decide_eq_true_eq] at h
        exact ⟨h.1.1, h.1.2, h.2⟩
      · exact h.elim
    · exact h.elim
  · exact h.elim

def evLen2 (P : Program) (t : TypeId) (x : V) (K : V → Prop) : Prop :=
  match x with
  | .str l => match P.underlying t with
    | some .string => K (.int .i64 l.length)
    | _ => False
  | .dat _ rows _ => grd (slOf P t).isSome (K (.int .i64 rows.length))
  | .arr _ _ len => grd (slOf P t).isSome (K (.int .i64 len))
  | _ => False
theorem evLen2_imp {P : Program} {t : TypeId} {x : V} {K : V → Prop} (h : evLen2 P t x K) : evLen P t x K := by
  unfold evLen2 at h
  unfold evLen
  split at h
  · split at h
    · rename_i hu; exact ⟨hu, h⟩
    · exact h.elim
  · exact grd_iff.1 h
  · exact grd_iff.1 h
  · exact h.elim

end Go.Abs

/-! Ev3 -/
/- Operations, regions and code, laid out so that reduction alone works them out. -/
namespace Go.Abs
open Go.RowKit

variable {P : Program} {G : Nat → Option (List V)}

/-- A function that may be called. -/
def fnOk (P : Program) (g : FuncId) : Prop := ∃ fn, P.funcs[g]? = some fn ∧ fn.body.isSome ∧ (fn.name == "runtime.NumGoroutine") = false

/-- A call's condition: the function may be called, and its contract. -/
structure Call2 (P : Program) (G : Nat → Option (List V)) (g : FuncId) (args : List V) (H : Heap) (Ψ : V → Heap → Prop) : Prop where
  ok : fnOk P g
  st : StCall P G g args H Ψ

theorem Call2.mono {g : FuncId} {args : List V} {H : Heap} {Ψ Ψ' : V → Heap → Prop} (h : Call2 P G g args H Ψ) (hm : ∀ r H', Ψ r H' → Ψ' r H') : Call2 P G g args H Ψ' := ⟨h.1, h.2.mono hm⟩

def bsel (t a b : Bool) : Bool := match t with | true => a | false => b

def evAppend2 (P : Program) (t t' : TypeId) (d : Nat) (x y : V) (s : S2) (k : V → S2 → Prop) : Prop :=
  match slOf P t with
  | some (el, sz, bytes) => match x, y with
    | .dat es rows fl, .dat es' ys fl' =>
      grd (notInt P t' && Nat.ble 1 sz && (match zeroOf P el with | some z => Nat.beq z.length sz | none => false)) (
      (rows = [] ∨ es = sz) ∧ (ys = [] ∨ es' = sz) ∧ (∀ r ∈ ys, r.all V.solid = true) ∧ (rows.length + ys.length) * bytes ≤ maxBytes ∧ rows.length + ys.length ≤ maxBytes ∧
      match fl with
      | .no => False
      | .tight => match fl' with
        | .tight => k (.dat sz (rows ++ ys) (.cls d)) s
        | _ => k (.dat sz (rows ++ ys) (.cls d)) s ∨ ((rows = [] ∧ ys ≠ [] ∧ ∀ r ∈ ys, ∀ v ∈ r, v.strip = v) ∧ k (.arr s.H.length sz ys.length) (s.setH (s.H ++ [some (.cells el ys.flatten)])))
      | .cls c => k (.dat sz (rows ++ ys) (.cls c)) ((s.dem (· == c)).setH (demoteH (· == c) s.H)))
    | _, _ => False
  | none => False

/-! ### maps -/
def evFind2 (k : V) (K : Option (Nat × V) → Prop) : List (V × V) → Nat → Prop
  | [], _ => K none
  | e :: es, i => match keyEq k e.1 with
    | some b => br b (K (some (i, e.2))) (evFind2 k K es (i + 1))
    | none => False

theorem evFind2_imp {k : V} {K K' : Option (Nat × V) → Prop} (hm : ∀ r, K r → K' r) : ∀ (es : List (V × V)) (i : Nat), evFind2 k K es i → evFind k K' es i := by
  intro es
  induction es with
  | nil => intro i h; exact hm _ h
  | cons e es ih =>
    intro i h
    unfold evFind2 at h
    unfold evFind
    split at h
    · rename_i b hb
      rw [hb]
      rw [br_iff] at h
      exact ⟨fun hb => hm _ (h.1 hb), fun hb => ih _ (h.2 hb)⟩
    · exact h.elim

def evInsert2 (P : Program) (t : TypeId) (key x : V) (H : Heap) (K : Heap → Prop) : V → Prop
  | .mp id => match H[id]?, mapOf P t with
    | some (some (.map es c)), some (kt, _) => grd (keyTy P kt key) (evFind2 key (fun r => match r with
      | none => K (H.set id (some (.map (es ++ [(key, x)]) (c + 1))))
      | some (i, _) => K (H.set id (some (.map (es.set i (key, x)) c)))) es 0)
    | _, _ => False
  | _ => False

theorem evInsert2_imp {t : TypeId} {key x m : V} {σ : St} {K : Heap → Prop} {K' : St → Prop} (hm : ∀ H, K H → K' { σ with H := H }) (h : evInsert2 P t key x σ.H K m) : evInsert P t key x σ K' m := by
  cases m with
  | mp id =>
    simp only [evInsert2] at h
    simp only [evInsert]
    split at h
    · rename_i h1 h2
      simp only [h1, h2]
      rw [grd_iff] at h
      refine ⟨h.1, evFind2_imp (fun r hr => ?_) _ _ h.2⟩
      cases r with
      | none => exact hm _ hr
      | some r => exact hm _ hr
    · exact h.elim
  | _ => exact h.elim

def evLookup2 (P : Program) (t : TypeId) (key : V) (ok : Bool) (H : Heap) (K : V → Prop) : V → Prop
  | .mp id => match H[id]?, mapOf P t with
    | some (some (.map es _)), some (kt, et) => match zero1 P et with
      | some z => grd (keyTy P kt key) (evFind2 key (fun r => match ok with
        | true => match r with
          | none => K (.tup [z, .bool false])
          | some (_, v) => K (.tup [v, .bool true])
        | false => match r with
          | none => K z.strip
          | some (_, v) => K v.strip) es 0)
      | none => False
    | _, _ => False
  | _ => False

theorem evLookup2_imp {t : TypeId} {key m : V} {ok : Bool} {σ : St} {K K' : V → Prop} (hm : ∀ v, K v → K' v) (h : evLookup2 P t key ok σ.H K m) : evLookup P t key ok σ K' m := by
  cases m with
  | mp id =>
    simp only [evLookup2] at h
    simp only [evLookup]
    split at h
    · rename_i h1 h2
      simp only [h1, h2]
      split at h
      · rename_i h3
        simp only [h3]
        rw [grd_iff] at h
        refine ⟨h.1, evFind2_imp (fun r hr => ?_) _ _ h.2⟩
        cases ok <;> cases r <;> exact hm _ hr
      · exact h.elim
    · exact h.elim
  | _ => exact h.elim

def evRange2 (P : Program) (t : TypeId) (H : Heap) (K : Heap → Prop) : V → Prop
  | .mp id => match H[id]?, mapOf P t with
    | some (some (.map _ c)), some _ => K (H ++ [some (.iter id c c [])])
    | _, _ => False
  | _ => False

theorem evRange2_imp {t : TypeId} {m : V} {σ : St} {K : Heap → Prop} {k' : V → St → Prop} (hm : ∀ H, K H → k' (.ptr σ.H.length 0) { σ with H := H }) (h : evRange2 P t σ.H K m) : evRange P t σ k' m := by
  cases m with
  | mp id =>
    simp only [evRange2] at h
    simp only [evRange]
    split at h
    · rename_i h1 h2
      simp only [h1, h2]
      exact hm _ h
    · exact h.elim
  | _ => exact h.elim

/-- Of a map's entries one that hasn't been handed out comes, whichever; none comes if there are none. -/
def nextK (es : List (V × V)) (seen : List Nat) (k0 : Prop) (k1 : Nat → V → V → Prop) : Prop :=
  ((∀ (i : Nat), i < es.length → i ∈ seen) → k0) ∧ (∀ (i : Nat) (x : V × V), es[i]? = some x → ¬ i ∈ seen → k1 i x.1 x.2)

def evNext2 (H : Heap) (k0 : Prop) (k1 : V → V → Heap → Prop) : V → Prop
  | .ptr id 0 => match H[id]? with
    | some (some (.iter m since stepped seen)) => match H[m]? with
      | some (some (.map es c)) => grd (Nat.ble c since && Nat.ble since stepped) (nextK es seen k0 fun i x y => k1 x y (H.set id (some (.iter m since c (seen ++ [i])))))
      | _ => False
    | _ => False
  | _ => False

theorem evNext2_imp {m : V} {σ : St} {k0 : Prop} {k1 : V → V → Heap → Prop} {k' : V → St → Prop} (h0 : k0 → k' (.tup [.bool false]) σ) (h1 : ∀ x y H, k1 x y H → k' (.tup [.bool true, x, y]) { σ with H := H }) (h : evNext2 σ.H k0 k1 m) : evNext σ k' m := by
  unfold evNext2 at h
  unfold evNext
  split at h
  · split at h
    · rename_i g1
      simp only [g1]
      split at h
      · rename_i g2
        simp only [g2]
        rw [grd_iff] at h
        exact ⟨h.1, fun hi => h0 (h.2.1 hi), fun i x hx hi => h1 _ _ _ (h.2.2 i x hx hi)⟩
      · exact h.elim
    · exact h.elim
  · exact h.elim

def evEntry2 (H : Heap) (k : V → Prop) : V → Prop
  | .ptr id 0 => match H[id]? with
    | some (some (.iter m _ stepped seen)) => match H[m]?, seen.getLast? with
      | some (some (.map es c)), some i => grd (Nat.beq c stepped) (optK es[i]? fun x => k (.tup [x.1, x.2]))
      | _, _ => False
    | _ => False
  | _ => False

theorem evEntry2_imp {m : V} {σ : St} {k k' : V → Prop} (hm : ∀ v, k v → k' v) (h : evEntry2 σ.H k m) : evEntry σ k' m := by
  unfold evEntry2 at h
  unfold evEntry
  split at h
  · split at h
    · rename_i g1
      simp only [g1]
      split at h
      · rename_i g2 g3
        simp only [g2, g3]
        rw [grd_iff] at h
        obtain ⟨x, hx, hk⟩ := optK_elim h.2
        refine ⟨h.1, ?_⟩
        rw [hx]
        exact hm _ hk
      · exact h.elim
    · exact h.elim
  · exact h.elim

def evNil2 (P : Program) (op : BinOp) (t : TypeId) (x : V) (K : V → Prop) : Prop :=
  grd (slOf P t).isSome (match op with
  | .eql => match x with
    | .dat _ rows _ => ∀ b : Bool, (b = true → rows = []) → K (.bool b)
    | .arr .. => K (.bool false)
    | _ => False
  | .neq => match x with
    | .dat _ rows _ => ∀ b : Bool, (b = false → rows = []) → K (.bool b)
    | .arr .. => K (.bool true)
    | _ => False
  | _ => False)

theorem evNil2_imp {op : BinOp} {t : TypeId} {x : V} {K K' : V → Prop} (hm : ∀ v, K v → K' v) (h : evNil2 P op t x K) : evNil P op t x K' := by
  unfold evNil2 at h
  unfold evNil
  rw [grd_iff] at h
  refine ⟨h.1, ?_⟩
  have h := h.2
  cases op with
  | eql => cases x <;> first | exact fun b hb => hm _ (h b hb) | exact hm _ h | exact h.elim
  | neq => cases x <;> first | exact fun b hb => hm _ (h b hb) | exact hm _ h | exact h.elim
  | _ => exact h.elim

def isStrT (P : Program) (t : TypeId) : Bool := match P.underlying t with
  | some .string => true
  | _ => false

def evSlice2 (P : Program) (t : TypeId) (x : V) (lo hi : Option V) (K : V → Prop) : Prop :=
  match x with
  | .str l => match bnd 0 lo, bnd l.length hi with
    | some a, some b => grd (isStrT P t) ((0 ≤ a ∧ a ≤ b ∧ b ≤ l.length) ∧ K (.str ((l.take b.toNat).drop a.toNat)))
    | _, _ => False
  | .dat es rows _ => match slOf P t, bnd 0 lo, bnd rows.length hi with
    | some (_, s, _), some a, some b => ((rows = [] ∨ es = s) ∧ 0 ≤ a ∧ a ≤ b ∧ b ≤ rows.length) ∧ K (.dat s ((rows.take b.toNat).drop a.toNat) .no)
    | _, _, _ => False
  | .rp cs => match lo, hi, arrOf P t with
    | none, none, some (n, _, s) => grd (Nat.ble 1 s && Nat.ble (n * s) cs.length) (K (.dat s (chunks s n cs) .no))
    | _, _, _ => False
  | _ => False

theorem evSlice2_imp {t : TypeId} {x : V} {lo hi : Option V} {K : V → Prop} (h : evSlice2 P t x lo hi K) : evSlice P t x lo hi K := by
  unfold evSlice2 at h
  unfold evSlice
  cases x with
  | str l =>
    simp only at h ⊢
    split at h
    · rename_i h1 h2
      rw [h1, h2]
      rw [grd_iff] at h
      refine ⟨?_, h.2⟩
      have := h.1
      unfold isStrT at this
      split at this
      · rename_i hs; exact hs
      · cases this
    · exact h.elim
  | dat es rows fl => exact h
  | rp cs =>
    simp only at h ⊢
    split at h
    · rename_i h1
      rw [h1]
      rw [grd_iff, Bool.and_eq_true, Nat.ble_eq, Nat.ble_eq] at h
      exact ⟨h.1.1, h.1.2, h.2⟩
    · exact h.elim
  | _ => exact h.elim

def evMake2 (P : Program) (t : TypeId) (n c : V) (H : Heap) (k : V → Heap → Prop) : Prop :=
  match slOf P t, n, c with
  | some (e, s, bytes), .im (.int _ a), .im (.int _ b) => match zeroOf P e with
    | some z => grd (Nat.beq z.length s && Nat.ble 1 s) ((b = a ∧ 0 ≤ a ∧ a ≤ maxBytes ∧ bytes * a ≤ maxBytes) ∧ k (.arr H.length s a.toNat) (H ++ [some (.cells e (List.replicate a.toNat z).flatten)]))
    | none => False
  | _, _, _ => False

theorem evMake2_imp {t : TypeId} {n c : V} {H : Heap} {k k' : V → Heap → Prop} (hm : ∀ v H, k v H → k' v H) (h : evMake2 P t n c H k) : evMake P t n c H k' := by
  unfold evMake2 at h
  unfold evMake
  split at h
  · rename_i h1
    rw [h1]
    simp only
    split at h
    · rename_i z hz
      rw [grd_iff, Bool.and_eq_true, Nat.beq_eq, Nat.ble_eq] at h
      rw [hz]
      exact ⟨h.1.1, h.1.2, h.2.1, hm _ _ h.2.2⟩
    · exact h.elim
  · exact h.elim

def evOp2' (P : Program) (G : Nat → Option (List V)) (o : Oper) (s : S2) (H : Heap) (k : V → S2 → Prop) : Prop :=
  match o.op with
  | .move x | .assign x => force (s.ev x) fun v => k v s
  | .alloc t => match zeroOf P t with
    | some cs => k (.ptr H.length 0) (s.setH (H ++ [some (.cells t cs)]))
    | none => False
  | .box t x => force (s.ev x) fun v => match v.cellsF with
    | some cs => k (.ptr H.length 0) (s.setH (H ++ [some (.cells t cs)]))
    | none => False
  | .build t parts => evBuild2 P t (parts.toList.map fun (i, x) => (i, s.ev x)) fun v => k v s
  | .buildSlice t len parts => evBuildSlice2 P t len (parts.toList.map fun (i, x) => (i, s.ev x)) fun v => k v s
  | .load t a => evLoad2 P t H (fun v => force v fun v => k v s) (asRp G (s.ev a))
  | .store t a x => force (s.ev x) fun v => evStore2 P t H v (fun H => k (.tup []) (s.setH H)) (s.ev a)
  | .nilCheck x => match s.ev x with
    | .ptr id off => k (.ptr id off) s
    | .rp cs => k (.rp cs) s
    | .fn (.func f) a b => k (.fn (.func f) a b) s
    | .yld id => k (.yld id) s
    | _ => False
  | .binOp op t x y _ => match isNilC y with
    | true => evNil2 P op t (s.ev x) fun v => k v s
    | false => evBin2 P op t (s.ev x) (s.ev y) fun v => k v s
  | .slice t x lo hi none => evSlice2 P t (asRp G (s.ev x)) (lo.map s.ev) (hi.map s.ev) fun v => k v s
  | .makeSlice t n c => evMake2 P t (s.ev n) (s.ev c) H fun v H => k v (s.setH H)
  | .unOp op _ x => evUn op (s.ev x) fun v => k v s
  | .convert src dst x => evConvert P src dst H (s.ev x) fun v => k v s
  | .makeFunc fn a b => k (.fn fn (a.toList.map s.ev) (b.toList.map s.ev)) s
  | .fieldAddr t x f => evFieldAddr2 P t f (fun v => k v s) (asRp G (s.ev x))
  | .field t x f => evField2 P t f (fun v => force v fun v => k v s) (s.ev x)
  | .index t x i => evIndex2 P t (s.ev x) (s.ev i) fun v => force v fun v => k v s
  | .indexAddr t x i => evIndexAddr2 P t (asRp G (s.ev x)) (s.ev i) fun v => k v s
  | .pick c x y => match s.ev c with
    | .im (.bool t) => match s.ev x, s.ev y with
      | .im (.bool a), .im (.bool b) => k (.bool (bsel t a b)) s
      | x, y => br t (force x fun v => k v s) (force y fun v => k v s)
    | _ => False
  | .extract x i => match s.ev x with
    | .tup vs => match vs[i]? with
      | some v => force v.strip fun v => k v s
      | none => False
    | _ => False
  | .makeMap _ none => k (.mp H.length) (s.setH (H ++ [some (.map [] 0)]))
  | .mapUpdate t m x y | .insert t m x y => force (s.ev x) fun key => force (s.ev y) fun v => evInsert2 P t key v H (fun H => k (.tup []) (s.setH H)) (s.ev m)
  | .lookup t x i ok => force (s.ev i) fun key => evLookup2 P t key ok H (fun v => force v fun v => k v s) (s.ev x)
  | .range t x => evRange2 P t H (fun H' => k (.ptr H.length 0) (s.setH H')) (s.ev x)
  | .next x false => evNext2 H (k (.tup [.bool false]) s) (fun x y H => k (.tup [.bool true, x, y]) (s.setH H)) (s.ev x)
  | .entry x => evEntry2 H (fun v => k v s) (s.ev x)
  | .call c => match c.callee with
    | .builtin .len => match c.args.toList, c.argTypes.toList with
      | [x], [t] => evLen2 P t (s.ev x) fun v => k v s
      | _, _ => False
    | .builtin .append => match c.args.toList, c.argTypes.toList with
      | [x, y], [t, t'] => evAppend2 P t t' (o.dst.getD 0) (s.ev x) (s.ev y) s k
      | _, _ => False
    | .builtin .min => match c.args.toList with
      | [x, y] => match s.ev x, s.ev y with
        | .im (.int kd a), .im (.int kd' b) => grd (kindEq kd kd') (k (.int kd (if b < a then b else a)) s)
        | _, _ => False
      | _ => False
    | .builtin .max => match c.args.toList with
      | [x, y] => match s.ev x, s.ev y with
        | .im (.int kd a), .im (.int kd' b) => grd (kindEq kd kd') (k (.int kd (if b > a then b else a)) s)
        | _, _ => False
      | _ => False
    | .value f => match s.ev f with
      | .fn (.func g) a b => Call2 P G g ((a ++ (c.args.toList.map s.ev) ++ b).map V.strip) H fun r H' => force r fun r => k r ((s.dem (heapCls H)).setH H')
      | .yld id => StYield P G id ((c.args.toList.map s.ev).map V.strip) H fun r H' => force r fun r => k r ((s.dem (heapCls H)).setH H')
      | _ => False
    | _ => False
  | _ => False

def evOp2 (P : Program) (G : Nat → Option (List V)) (o : Oper) (s : S2) (k : V → S2 → Prop) : Prop :=
  match s with
  | ⟨n, b, u, H, ds, c⟩ => evOp2' P G o ⟨n, b, u, H, ds, c⟩ H k

theorem evOp2_eq {o : Oper} {s : S2} {k : V → S2 → Prop} : evOp2 P G o s k = evOp2' P G o s s.H k := by cases s; rfl

theorem evLoadCells_mono {t : TypeId} {vs : List V} {k k' : V → Prop} (hm : ∀ v, k v → k' v) (h : evLoadCells P t vs k) : evLoadCells P t vs k' := by
  unfold evLoadCells at *
  split at h
  · exact ⟨h.1, hm _ h.2⟩
  · split at h
    · exact hm _ h
    · exact h.elim
  · exact h.elim

theorem evLoad_mono {t : TypeId} {σ : St} {k k' : V → Prop} {x : V} (hm : ∀ v, k v → k' v) (h : evLoad P t σ k x) : evLoad P t σ k' x := by
  obtain ⟨u, h1, h2⟩ := det_load t σ x k h
  exact h2 k' (hm u h1)

theorem Det.mono {R : (V → Prop) → Prop} (hd : Det R) {k k' : V → Prop} (hm : ∀ v, k v → k' v) (h : R k) : R k' := by
  obtain ⟨u, h1, h2⟩ := hd k h
  exact h2 k' (hm u h1)

theorem evStore2_mono {t : TypeId} {H : Heap} {v : V} {k k' : Heap → Prop} {x : V} (hm : ∀ H', k H' → k' H') (h : evStore2 P t H v k x) : evStore2 P t H v k' x := by
  cases x with
  | ptr id off =>
    simp only [evStore2] at h ⊢
    split at h
    · rename_i h1
      try simp only [h1]
      split at h
      · rename_i h2 h3
        try simp only [h2, h3]
        rw [grd_iff] at h ⊢
        exact ⟨h.1, hm _ h.2⟩
      · exact h.elim
    · exact h.elim
  | _ => exact h.elim

theorem evOp2_core {o : Oper} {s : S2} {k : V → S2 → Prop} {K : V → St → Prop} (hw : s.Wf) (ok : ∀ v, k v s → K v s.st) (hK : quiet o.op = false → ∀ v s', s'.Wf → s'.n = s.n → k v s' → K v s'.st) (h : evOp2 P G o s k) : evOp P G o s.st K := by
  have hev : ∀ x, s.st.ev x = s.ev x := fun x => S2.ev_eq hw x
  have okH : quiet o.op = false → ∀ v H, k v { s with H := H } → K v { s.st with H := H } := fun hq v H hv => hK hq v { s with H := H } ⟨hw.n, hw.d⟩ rfl hv
  have hmap : ∀ l : List Operand, l.map s.st.ev = l.map s.ev := fun l => List.map_congr_left fun x _ => hev x
  have hmap2 : ∀ l : List (Nat × Operand), (l.map fun (i, x) => (i, s.st.ev x)) = l.map fun (i, x) => (i, s.ev x) := fun l => List.map_congr_left fun x _ => by obtain ⟨i, y⟩ := x; show (i, s.st.ev y) = (i, s.ev y); rw [hev]
  rw [evOp2_eq] at h
  unfold evOp2' at h
  simp only [evAppend2, S2.setH_eq] at h
  unfold evOp
  cases ho : o.op with
  | move x => simp only [ho, force_iff] at h ⊢; rw [hev]; exact ok _ h
  | assign x => simp only [ho, force_iff] at h ⊢; rw [hev]; exact ok _ h
  | alloc t =>
    simp only [ho] at h ⊢
    split at h
    · rename_i h1; simp only [h1]; exact okH (by rw [ho]; rfl) _ _ h
    · exact h.elim
  | box t x =>
    simp only [ho, force_iff] at h ⊢
    rw [hev]
    split at h
    · rename_i h1; simp only [h1]; exact okH (by rw [ho]; rfl) _ _ h
    · exact h.elim
  | build t parts => simp only [ho] at h ⊢; rw [hmap2]; exact (det_build t _).mono ok (evBuild2_imp h)
  | buildSlice t len parts => simp only [ho] at h ⊢; rw [hmap2]; exact (det_buildSlice t len _).mono ok (evBuildSlice2_imp h)
  | load t x => simp only [ho, force_iff] at h ⊢; rw [hev]; exact evLoad_mono ok (evLoad2_imp (σ := s.st) h)
  | store t x y =>
    simp only [ho, force_iff] at h ⊢
    rw [hev, hev]
    exact evStore2_imp (σ := s.st) (evStore2_mono (fun H hk => okH (by rw [ho]; rfl) _ H hk) h)
  | nilCheck x =>
    simp only [ho] at h ⊢
    rw [hev]
    generalize s.ev x = vx at h ⊢
    split at h <;> first | exact ok _ h | exact h.elim
  | binOp op t x y t' =>
    simp only [ho] at h ⊢
    rw [hev, hev]
    cases hn : isNilC y with
    | true => rw [hn] at h; exact evNil2_imp (fun v hv => ok v hv) h
    | false => rw [hn] at h; exact (det_bin op t _ _).mono ok (evBin2_imp h)
  | slice t x lo hi mx =>
    cases mx with
    | some r => simp only [ho] at h
    | none =>
      simp only [ho] at h ⊢
      have h1 : lo.map s.st.ev = lo.map s.ev := by cases lo <;> simp [hev]
      have h2 : hi.map s.st.ev = hi.map s.ev := by cases hi <;> simp [hev]
      rw [hev, h1, h2]
      exact (det_slice t _ _ _).mono ok (evSlice2_imp h)
  | makeSlice t n c =>
    simp only [ho] at h ⊢
    rw [hev, hev]
    exact evMake2_imp (fun v H hk => okH (by rw [ho]; rfl) v H hk) h
  | unOp op t x => simp only [ho] at h ⊢; rw [hev]; exact (det_un op _).mono ok h
  | convert src dst x => simp only [ho] at h ⊢; rw [hev]; exact (det_convert src dst s.H _).mono ok h
  | makeFunc fn a b => simp only [ho] at h ⊢; rw [hmap, hmap]; exact ok _ h
  | fieldAddr t x f => simp only [ho] at h ⊢; rw [hev]; exact (det_fieldAddr t f _).mono ok (evFieldAddr2_imp h)
  | field t x f => simp only [ho, force_iff] at h ⊢; rw [hev]; exact (det_field t f _).mono ok (evField2_imp h)
  | index t x i => simp only [ho, force_iff] at h ⊢; rw [hev, hev]; exact (det_index t _ _).mono ok (evIndex2_imp h)
  | indexAddr t x i => simp only [ho] at h ⊢; rw [hev, hev]; exact (det_indexAddr t _ _).mono ok (evIndexAddr2_imp h)
  | pick c x y =>
    simp only [ho, force_iff] at h ⊢
    rw [hev, hev, hev]
    split at h
    · rename_i t hc
      simp only [hc]
      split at h
      · rename_i a b hx hy
        rw [hx, hy]
        refine ⟨fun ht => ?_, fun ht => ?_⟩ <;> subst ht <;> exact ok _ h
      · rw [br_iff] at h
        exact ⟨fun ht => ok _ (h.1 ht), fun ht => ok _ (h.2 ht)⟩
    · exact h.elim
  | extract x i =>
    simp only [ho, force_iff] at h ⊢
    rw [hev]
    split at h
    · rename_i vs hx
      simp only [hx]
      split at h
      · rename_i v hv
        simp only [hv]
        exact ok _ h
      · exact h.elim
    · exact h.elim
  | makeMap t r =>
    cases r with
    | none => simp only [ho] at h ⊢; exact okH (by rw [ho]; rfl) _ _ h
    | some r => simp only [ho] at h
  | mapUpdate t m x y =>
    simp only [ho, force_iff] at h ⊢
    rw [hev, hev, hev]
    exact evInsert2_imp (σ := s.st) (fun H hk => okH (by rw [ho]; rfl) _ H hk) h
  | insert t m x y =>
    simp only [ho, force_iff] at h ⊢
    rw [hev, hev, hev]
    exact evInsert2_imp (σ := s.st) (fun H hk => okH (by rw [ho]; rfl) _ H hk) h
  | lookup t x i b =>
    simp only [ho, force_iff] at h ⊢
    rw [hev, hev]
    exact evLookup2_imp (σ := s.st) (fun v hv => ok v hv) h
  | range t x =>
    simp only [ho] at h ⊢
    rw [hev]
    exact evRange2_imp (σ := s.st) (fun H hk => okH (by rw [ho]; rfl) _ H hk) h
  | next x b =>
    cases b with
    | false =>
      simp only [ho] at h ⊢
      rw [hev]
      exact evNext2_imp (σ := s.st) (fun hk => ok _ hk) (fun x y H hk => okH (by rw [ho]; rfl) _ H hk) h
    | true => simp only [ho] at h
  | entry x =>
    simp only [ho] at h ⊢
    rw [hev]
    exact evEntry2_imp (σ := s.st) (fun v hv => ok v hv) h
  | call c =>
    obtain ⟨callee, args, ts⟩ := c
    simp only [ho] at h ⊢
    cases callee with
    | builtin b =>
      simp only at h ⊢
      cases b with
      | len =>
        simp only at h ⊢
        split at h
        · rename_i x t ha ht
          rw [ha, ht]
          simp only [List.map_cons, List.map_nil, evBuiltin, hev]
          exact (det_len t _).mono ok (evLen2_imp h)
        · exact h.elim
      | append =>
        simp only at h ⊢
        split at h
        · rename_i x y t t' ha ht
          rw [ha, ht]
          simp only [List.map_cons, List.map_nil, evBuiltin, hev]
          unfold evAppend
          split at h
          · rename_i el sz bytes hsl
            simp only [hsl]
            generalize s.ev x = vx at h ⊢
            generalize s.ev y = vy at h ⊢
            split at h
            · rename_i es rows fl es' ys fl'
              rw [grd_iff, Bool.and_eq_true, Bool.and_eq_true, Nat.ble_eq] at h
              obtain ⟨⟨⟨h1, h2⟩, h3⟩, h4, h5, h6, h7, h8, h9⟩ := h
              have hz : (zeroOf P el).map List.length = some sz := by
                split at h3
                · rename_i z hz
                  rw [hz]
                  simpa [Nat.beq_eq] using h3
                · cases h3
              refine ⟨h1, h2, hz, h4, h5, h6, h7, h8, ?_⟩
              cases fl with
              | no => exact h9
              | tight =>
                have alt : (k (.dat sz (rows ++ ys) (.cls (o.dst.getD 0))) s ∨ ((rows = [] ∧ ys ≠ [] ∧ ∀ r ∈ ys, ∀ v ∈ r, v.strip = v) ∧ k (.arr s.H.length sz ys.length) { s with H := s.H ++ [some (.cells el ys.flatten)] })) → 
                    (K (.dat sz (rows ++ ys) (.cls (o.dst.getD 0))) s.st ∨ ((rows = [] ∧ ys ≠ [] ∧ ∀ r ∈ ys, ∀ v ∈ r, v.strip = v) ∧ K (.arr s.st.H.length sz ys.length) { s.st with H := s.st.H ++ [some (.cells el ys.flatten)] })) := by
                  rintro (h | ⟨h1, h⟩)
                  · exact .inl (ok _ h)
                  · exact .inr ⟨h1, okH (by rw [ho]; rfl) _ _ h⟩
                cases fl' with
                | tight => exact ok _ h9
                | no => exact alt h9
                | cls c => exact alt h9
              | cls c =>
                have := hK (by rw [ho]; rfl) _ { s.dem (· == c) with H := demoteH (· == c) s.H } ⟨(S2.dem_wf hw _).n, (S2.dem_wf hw _).d⟩ (by unfold S2.dem; split <;> rfl) h9
                have he : ({ s.dem (· == c) with H := demoteH (· == c) s.H } : S2).st = { s.st with tmps := s.st.tmps.map (V.demote (· == c)), H := demoteH (· == c) s.st.H } := by
                  have := S2.dem_st (s := s) (· == c)
                  simp only [S2.st] at this ⊢
                  simp only [St.mk.injEq] at this ⊢
                  exact ⟨this.1, trivial, this.2.2.1, this.2.2.2⟩
                rw [he] at this
                exact this
            · exact h.elim
          · exact h.elim
        · exact h.elim
      | min =>
        simp only at h ⊢
        split at h
        · rename_i x y ha
          rw [ha]
          simp only [List.map_cons, List.map_nil, hev]
          split at h
          · rename_i h1 h2
            rw [h1, h2]
            rw [grd_iff, kindEq, decide_eq_true_eq] at h
            exact ⟨h.1, ok _ h.2⟩
          · exact h.elim
        · exact h.elim
      | max =>
        simp only at h ⊢
        split at h
        · rename_i x y ha
          rw [ha]
          simp only [List.map_cons, List.map_nil, hev]
          split at h
          · rename_i h1 h2
            rw [h1, h2]
            rw [grd_iff, kindEq, decide_eq_true_eq] at h
            exact ⟨h.1, ok _ h.2⟩
          · exact h.elim
        · exact h.elim
      | _ => exact h.elim
    | value f =>
      simp only [force_iff] at h ⊢
      rw [hev, hmap]
      have after : ∀ r H', k r { s.dem (heapCls s.H) with H := H' } → K r (s.st.afterCall H') := fun r H' hk => by
        have h1 := hK (by rw [ho]; rfl) _ { s.dem (heapCls s.H) with H := H' } ⟨(S2.dem_wf hw _).n, (S2.dem_wf hw _).d⟩ (by unfold S2.dem; split <;> rfl) hk
        have he : ({ s.dem (heapCls s.H) with H := H' } : S2).st = s.st.afterCall H' := by
          have := S2.dem_st (s := s) (heapCls s.H)
          simp only [S2.st, St.afterCall] at this ⊢
          simp only [St.mk.injEq] at this ⊢
          exact ⟨this.1, trivial, this.2.2.1, this.2.2.2⟩
        rw [he] at h1
        exact h1
      split at h
      · rename_i g a b hf
        simp only [hf]
        exact ⟨h.1, h.2.mono fun r H' hk => after r H' hk⟩
      · rename_i id hf
        simp only [hf]
        exact h.mono fun r H' hk => after r H' hk
      · exact h.elim
    | invoke r m => exact h.elim
  | _ => simp only [ho] at h

theorem evOp2_imp {o : Oper} {s : S2} {k : V → S2 → Prop} {K : V → St → Prop} (hw : s.Wf) (hK : ∀ v s', s'.Wf → s'.n = s.n → k v s' → K v s'.st) (h : evOp2 P G o s k) : evOp P G o s.st K :=
  evOp2_core hw (fun v hv => hK v s hw rfl hv) (fun _ => hK) h

end Go.Abs

/-! Ev4 -/
/- Regions, code, functions and loops, laid out so that reduction alone works them out. -/
namespace Go.Abs
open Go.RowKit

variable {P : Program} {G : Nat → Option (List V)}

def put2 (s : S2) (d : Option Tmp) (v : V) (k : S2 → Prop) : Prop :=
  match d, s with
  | none, s => k s
  | some d, ⟨n, b, u, H, ds, c⟩ => grd (Nat.blt d n) (k ⟨n, b, (d, v) :: u, H, ds, c⟩)

theorem put2_imp {s : S2} {d : Option Tmp} {v : V} {k : S2 → Prop} (hw : s.Wf) (h : put2 s d v k) : ∃ s', s'.st = s.st.put d v ∧ s'.Wf ∧ s'.n = s.n ∧ k s' := by
  cases d with
  | none =>
    refine ⟨s, rfl, hw, rfl, ?_⟩
    cases s; exact h
  | some d =>
    have h : grd (Nat.blt d s.n) (k { s with upd := (d, v) :: s.upd }) := by cases s; exact h
    rw [grd_iff] at h
    refine ⟨{ s with upd := (d, v) :: s.upd }, rfl, ⟨hw.n, fun x hx => ?_⟩, rfl, h.2⟩
    simp only [List.mem_cons] at hx
    rcases hx with rfl | hx
    · exact Nat.lt_of_lt_of_le (Nat.blt_eq.mp h.1) hw.n
    · exact hw.d x hx

/-- A guard's temporary, now that its value is known. -/
def shadow (s : S2) (d : Nat) (b : Bool) : S2 := match s with | ⟨n, bs, u, H, ds, c⟩ => ⟨n, bs, (d, .bool b) :: u, H, ds, c⟩
theorem shadow_eq (s : S2) (d : Nat) (b : Bool) : shadow s d b = { s with upd := (d, .bool b) :: s.upd } := by cases s; rfl

theorem shadow_st {s : S2} (hw : s.Wf) {d : Nat} {b : Bool} (h : look s.upd s.base d = .bool b) : (shadow s d b).st = s.st ∧ (shadow s d b).Wf := by
  have h1 : (app s.upd s.base).getD d .bad = .bool b := by rw [look_eq s.base.length s.base (Nat.le_refl _) d s.upd hw.d]; exact h
  -- a temporary that is known is there
  have hlt : d < (app s.upd s.base).length := by
    rcases Nat.lt_or_ge d (app s.upd s.base).length with h2 | h2
    · exact h2
    · rw [List.getD_eq_getElem?_getD, List.getElem?_eq_none h2] at h1
      cases h1
  have hset : (app s.upd s.base).set d (.bool b) = app s.upd s.base := by
    rw [List.getD_eq_getElem?_getD, List.getElem?_eq_getElem hlt] at h1
    simp only [Option.getD_some] at h1
    rw [← h1]
    exact List.set_getElem_self hlt
  rw [shadow_eq]
  refine ⟨by simp only [S2.st, app, hset], hw.n, fun x hx => ?_⟩
  simp only [List.mem_cons] at hx
  rcases hx with rfl | hx
  · rwa [app_length] at hlt
  · exact hw.d x hx

/-- By the recursor itself: so the kernel meets the same terms as the elaborator. -/
noncomputable def evOps2 (P : Program) (G : Nat → Option (List V)) (all : List Oper) (l : List Oper) : S2 → (S2 → Prop) → Prop :=
  List.rec (motive := fun _ => S2 → (S2 → Prop) → Prop) (fun s k => k s) (fun o _ ih s k =>
    match o.guard with
    | none => evOp2 P G o s fun v s' => put2 s' o.dst v fun s'' => ih s'' k
    | some (j, want) => match (all[j]?).bind (·.dst) with
      | none => False
      | some d => match look s.upd s.base d with
        | .im (.bool b) => match want with
          | true => br b (evOp2 P G o (shadow s d true) fun v s' => put2 s' o.dst v fun s'' => ih s'' k) (put2 (shadow s d false) o.dst (.tup []) fun s'' => ih s'' k)
          | false => br b (put2 (shadow s d true) o.dst (.tup []) fun s'' => ih s'' k) (evOp2 P G o (shadow s d false) fun v s' => put2 s' o.dst v fun s'' => ih s'' k)
        | .tup [] => put2 s o.dst (.tup []) fun s'' => ih s'' k
        | _ => False) l

theorem evOps2_cons (all : List Oper) (o : Oper) (rest : List Oper) (s : S2) (k : S2 → Prop) : evOps2 P G all (o :: rest) s k =
    match o.guard with
    | none => evOp2 P G o s fun v s' => put2 s' o.dst v fun s'' => evOps2 P G all rest s'' k
    | some (j, want) => match (all[j]?).bind (·.dst) with
      | none => False
      | some d => match look s.upd s.base d with
        | .im (.bool b) => match want with
          | true => br b (evOp2 P G o (shadow s d true) fun v s' => put2 s' o.dst v fun s'' => evOps2 P G all rest s'' k) (put2 (shadow s d false) o.dst (.tup []) fun s'' => evOps2 P G all rest s'' k)
          | false => br b (put2 (shadow s d true) o.dst (.tup []) fun s'' => evOps2 P G all rest s'' k) (evOp2 P G o (shadow s d false) fun v s' => put2 s' o.dst v fun s'' => evOps2 P G all rest s'' k)
        | .tup [] => put2 s o.dst (.tup []) fun s'' => evOps2 P G all rest s'' k
        | _ => False := rfl

theorem yieldedV_look {all : List Oper} {s : S2} (hw : s.Wf) {j : Nat} {d : Nat} (hd : (all[j]?).bind (·.dst) = some d) {v : V} (hv : v ≠ .bad) (h : look s.upd s.base d = v) : yieldedV all s.st j = some v := by
  unfold yieldedV
  rw [hd]
  simp only
  have h1 : (app s.upd s.base).getD d .bad = v := by rw [look_eq s.base.length s.base (Nat.le_refl _) d s.upd hw.d]; exact h
  show (app s.upd s.base)[d]? = some v
  rw [List.getD_eq_getElem?_getD] at h1
  cases hg : (app s.upd s.base)[d]? with
  | none => rw [hg] at h1; exact absurd h1.symm hv
  | some x => rw [hg] at h1; simp only [Option.getD_some] at h1; rw [h1]

theorem evOps2_imp {all : List Oper} {k : S2 → Prop} {K : St → Prop} (n : Nat) (hK : ∀ s' : S2, s'.Wf → s'.n = n → k s' → K s'.st) : ∀ (rest : List Oper) (s : S2), s.Wf → s.n = n → evOps2 P G all rest s k → evOps P G all rest s.st K := by
  intro rest
  induction rest with
  | nil => intro s hw hn h; exact hK s hw hn h
  | cons o rest ih =>
    intro s hw hn h
    have run : ∀ s : S2, s.Wf → s.n = n → evOp2 P G o s (fun v s' => put2 s' o.dst v fun s'' => evOps2 P G all rest s'' k) → evOp P G o s.st (fun v σ' => evOps P G all rest (σ'.put o.dst v) K) := by
      intro s hw hn h
      refine evOp2_imp hw (fun v s' hw' hn' h' => ?_) h
      obtain ⟨s'', h1, h2, h3, h4⟩ := put2_imp hw' h'
      rw [← h1]
      exact ih s'' h2 (h3.trans (hn'.trans hn)) h4
    have skip : ∀ s : S2, s.Wf → s.n = n → put2 s o.dst (.tup []) (fun s'' => evOps2 P G all rest s'' k) → evOps P G all rest (s.st.put o.dst (.tup [])) K := by
      intro s hw hn h
      obtain ⟨s'', h1, h2, h3, h4⟩ := put2_imp hw h
      rw [← h1]
      exact ih s'' h2 (h3.trans hn) h4
    rw [evOps2_cons] at h
    simp only [evOps]
    cases hg : o.guard with
    | none =>
      rw [hg] at h
      exact run s hw hn h
    | some g =>
      obtain ⟨j, want⟩ := g
      rw [hg] at h
      simp only at h ⊢
      split at h
      · exact h.elim
      · rename_i d hd
        split at h
        · rename_i b hl
          rw [yieldedV_look hw hd (by simp) hl]
          simp only
          cases want with
          | true =>
            simp only [br_iff] at h
            refine ⟨fun hb => ?_, fun hb => ?_⟩
            · subst hb
              obtain ⟨h1, h2⟩ := shadow_st hw hl
              have := run _ h2 hn (h.1 rfl)
              rwa [h1] at this
            · have hb' : b = false := by simpa using hb
              subst hb'
              obtain ⟨h1, h2⟩ := shadow_st hw hl
              have := skip _ h2 hn (h.2 rfl)
              rwa [h1] at this
          | false =>
            simp only [br_iff] at h
            refine ⟨fun hb => ?_, fun hb => ?_⟩
            · subst hb
              obtain ⟨h1, h2⟩ := shadow_st hw hl
              have := run _ h2 hn (h.2 rfl)
              rwa [h1] at this
            · have hb' : b = true := by simpa using hb
              subst hb'
              obtain ⟨h1, h2⟩ := shadow_st hw hl
              have := skip _ h2 hn (h.1 rfl)
              rwa [h1] at this
        · rename_i hl
          rw [yieldedV_look hw hd (by simp) hl]
          exact skip s hw hn h
        · exact h.elim

/-! ### code -/
/-- What is asked behind a piece of code that is walked by its own rule. -/
def toΦ (n : Nat) (Φ : Exit → S2 → Prop) (x : Exit) (σ : St) : Prop := ∃ s : S2, σ = s.st ∧ s.Wf ∧ s.n = n ∧ Φ x s

noncomputable def evCode2 (P : Program) (G : Nat → Option (List V)) (c : Code) : (Exit → S2 → Prop) → S2 → Prop :=
  Code.rec (motive := fun _ => (Exit → S2 → Prop) → S2 → Prop)
    (fun Φ s => Φ .normal s)
    (fun id ops d Φ s => match d with
      | false => evOps2 P G ops.toList ops.toList s (Φ .normal)
      | true => s.Wf → WPc P G (.region id ops true) (toΦ s.n Φ) s.st)
    (fun _ _ iha ihb Φ s => iha (fun x s' => match x with
      | .normal => ihb Φ s'
      | x => Φ x s') s)
    (fun c _ _ iha ihb Φ s => match s.ev c with
      | .im (.bool t) => br t (iha Φ s) (ihb Φ s)
      | _ => False)
    (fun id _ ih Φ s => ih (fun x s' => match x with
      | .exit i => match Nat.beq i id with
        | true => Φ .normal s'
        | false => Φ (.exit i) s'
      | x => Φ x s') s)
    (fun c _ Φ s => s.Wf → WPc P G (.loop c) (toΦ s.n Φ) s.st)
    (fun f ps a c _ _ Φ s => s.Wf → WPc P G (.rangeFunc f ps a c) (toΦ s.n Φ) s.st)
    (fun id Φ s => Φ (.exit id) s)
    (fun c _ Φ s => s.Wf → WPc P G (.scope c) (toΦ s.n Φ) s.st)
    (fun _ Φ s => Φ .normal s)
    (fun l Φ s => Φ (.goto l) s)
    (fun Φ s => Φ .ret s)
    (fun _ _ _ => False) c

theorem evCode2_cond (c : Operand) (a b : Code) (Φ : Exit → S2 → Prop) (s : S2) : evCode2 P G (.cond c a b) Φ s = match s.ev c with
    | .im (.bool t) => br t (evCode2 P G a Φ s) (evCode2 P G b Φ s)
    | _ => False := rfl

theorem wpc_seq {x y : Code} {Φ : Exit → St → Prop} {σ : St} (h : WPc P G x (fun ex σ' => match ex with | .normal => WPc P G y Φ σ' | ex => Φ ex σ') σ) : WPc P G (.seq x y) Φ σ := by
  intro a w e hst
  refine wpIn_seq ?_
  refine wpIn_mono (h a w e hst) ?_
  rintro ex a' w' ⟨σ', e', hΦ, hc, hst', hx⟩
  have hro : σ'.cur.map e'.ρ = σ.cur.map e.ρ := cur_same hst hc hx
  cases ex with
  | normal =>
    have := hΦ a' w' e' hst'
    rw [hro] at this
    refine wpIn_mono this ?_
    rintro ex2 a2 w2 ⟨σ2, e2, hΦ2, hc2, hst2, hx2⟩
    exact ⟨σ2, e2, hΦ2, hc2.trans hc, hst2, hx.trans hx2⟩
  | _ => exact ⟨σ', e', hΦ, hc, hst', hx⟩

theorem wpc_cond {c : Operand} {x y : Code} {Φ : Exit → St → Prop} {σ : St} {t : Bool} (hc : σ.ev c = .im (.bool t)) (h1 : t = true → WPc P G x Φ σ) (h2 : t = false → WPc P G y Φ σ) : WPc P G (.cond c x y) Φ σ := by
  intro a w e hst
  have hv := hst.ev c
  rw [hc] at hv
  have ht : a.eval c = .bool t := rep_im hv
  refine wpIn_cond ht ?_
  cases t with
  | true => exact h1 rfl a w e hst
  | false => exact h2 rfl a w e hst

theorem wpc_block {id : Nat} {c : Code} {Φ : Exit → St → Prop} {σ : St} (h : WPc P G c (fun x σ' => match x with
    | .exit i => if i = id then Φ .normal σ' else Φ (.exit i) σ'
    | x => Φ x σ') σ) : WPc P G (.block id c) Φ σ := by
  intro a w e hst
  refine wpIn_block ?_
  refine wpIn_mono (h a w e hst) ?_
  rintro ex a' w' ⟨σ', e', hΦ, hc, hst', hx⟩
  cases ex with
  | exit i =>
    simp only at hΦ
    by_cases hi : i = id
    · rw [if_pos hi] at hΦ
      have : (Exit.inBlock id (fun x a' w' => ∃ σ' e', Φ x σ' ∧ σ'.cur = σ.cur ∧ RSt G σ' a' w' e' ∧ Ext σ.H w e σ'.H w' e') (.exit i) a' w') = (∃ σ' e', Φ .normal σ' ∧ σ'.cur = σ.cur ∧ RSt G σ' a' w' e' ∧ Ext σ.H w e σ'.H w' e') := by
        simp [Exit.inBlock, hi]
      rw [this]
      exact ⟨σ', e', hΦ, hc, hst', hx⟩
    · rw [if_neg hi] at hΦ
      have : (Exit.inBlock id (fun x a' w' => ∃ σ' e', Φ x σ' ∧ σ'.cur = σ.cur ∧ RSt G σ' a' w' e' ∧ Ext σ.H w e σ'.H w' e') (.exit i) a' w') = (∃ σ' e', Φ (.exit i) σ' ∧ σ'.cur = σ.cur ∧ RSt G σ' a' w' e' ∧ Ext σ.H w e σ'.H w' e') := by
        simp [Exit.inBlock, hi]
      rw [this]
      exact ⟨σ', e', hΦ, hc, hst', hx⟩
  | _ => exact ⟨σ', e', hΦ, hc, hst', hx⟩

theorem evCode2_sound (c : Code) (n : Nat) : ∀ (Φ : Exit → S2 → Prop) (s : S2), s.Wf → s.n = n → evCode2 P G c Φ s → WPc P G c (toΦ n Φ) s.st := by
  have base : ∀ (c : Code) (x : Exit) (Φ : Exit → S2 → Prop) (s : S2), s.Wf → s.n = n → evCode P G c (fun y σ => y = x ∧ σ = s.st) s.st → Φ x s → WPc P G c (toΦ n Φ) s.st := by
    intro c x Φ s hw hn h hΦ
    refine (evCode_sound c _ _ h).mono ?_
    rintro y σ ⟨rfl, rfl⟩
    exact ⟨s, rfl, hw, hn, hΦ⟩
  induction c with
  | skip => intro Φ s hw hn h; exact base _ .normal Φ s hw hn ⟨rfl, rfl⟩ h
  | label l => intro Φ s hw hn h; exact base _ .normal Φ s hw hn ⟨rfl, rfl⟩ h
  | exit i => intro Φ s hw hn h; exact base _ (.exit i) Φ s hw hn ⟨rfl, rfl⟩ h
  | goto l => intro Φ s hw hn h; exact base _ (.goto l) Φ s hw hn ⟨rfl, rfl⟩ h
  | ret => intro Φ s hw hn h; exact base _ .ret Φ s hw hn ⟨rfl, rfl⟩ h
  | refuse w => intro Φ s hw hn h; exact h.elim
  | loop c ih => intro Φ s hw hn h; subst hn; exact h hw
  | scope c ih => intro Φ s hw hn h; subst hn; exact h hw
  | rangeFunc f ps a c iha ihc => intro Φ s hw hn h; subst hn; exact h hw
  | region id ops d =>
    intro Φ s hw hn h
    cases d with
    | true => subst hn; exact h hw
    | false => exact evCode_sound (.region id ops false) _ _ (evOps2_imp n (fun s' hw' hn' h' => ⟨s', rfl, hw', hn', h'⟩) _ s hw hn h)
  | seq a b iha ihb =>
    intro Φ s hw hn h
    refine wpc_seq ((iha _ s hw hn h).mono ?_)
    rintro ex σ' ⟨s', rfl, hw', hn', h'⟩
    cases ex with
    | normal => exact ihb Φ s' hw' hn' h'
    | _ => exact ⟨s', rfl, hw', hn', h'⟩
  | cond c a b iha ihb =>
    intro Φ s hw hn h
    rw [evCode2_cond] at h
    split at h
    · rename_i t hc
      rw [br_iff] at h
      exact wpc_cond (by rw [S2.ev_eq hw, hc]) (fun ht => iha Φ s hw hn (h.1 ht)) (fun ht => ihb Φ s hw hn (h.2 ht))
    · exact h.elim
  | block id c ih =>
    intro Φ s hw hn h
    refine wpc_block ((ih _ s hw hn h).mono ?_)
    rintro ex σ' ⟨s', rfl, hw', hn', h'⟩
    cases ex with
    | exit i =>
      simp only at h' ⊢
      by_cases hi : i = id
      · subst hi
        rw [if_pos rfl]
        rw [Nat.beq_refl] at h'
        exact ⟨s', rfl, hw', hn', h'⟩
      · rw [if_neg hi]
        have : Nat.beq i id = false := by
          cases hb : Nat.beq i id with
          | false => rfl
          | true => exact absurd (Nat.eq_of_beq_eq_true hb) hi
        rw [this] at h'
        exact ⟨s', rfl, hw', hn', h'⟩
    | _ => exact ⟨s', rfl, hw', hn', h'⟩

/-! ### functions -/
def readV2 (P : Program) (s : S2) (k : V → Prop) : ResultVar → Prop
  | .tmp t => force (look s.upd s.base t) k
  | .cell a t => evLoad2 P t s.H (fun v => force v k) (look s.upd s.base a)

def readVs2 (P : Program) (s : S2) : List ResultVar → List V → (List V → Prop) → Prop
  | [], acc, k => k acc
  | r :: rs, acc, k => readV2 P s (fun v => readVs2 P s rs (acc ++ [v]) k) r

def isDefd (H : Heap) (id : Nat) : Bool := match H[id]? with
  | some (some .defd) => true
  | _ => false

def nodupB : List Nat → Bool
  | [] => true
  | x :: xs => !xs.any (Nat.beq x) && nodupB xs

theorem nodupB_spec : ∀ l : List Nat, nodupB l = true → l.Nodup
  | [], _ => .nil
  | x :: xs, h => by
    simp only [nodupB, Bool.and_eq_true, Bool.not_eq_true'] at h
    refine List.nodup_cons.2 ⟨fun hx => ?_, nodupB_spec xs h.2⟩
    have := List.any_eq_false.1 h.1 x hx
    simp at this

def retΦ2' (P : Program) (fn : Func) (Ψ : V → Heap → Prop) (s : S2) : Prop :=
  match s with
  | ⟨n, b, u, H, [], c⟩ => readVs2 P ⟨n, b, u, H, [], c⟩ fn.results.toList [] fun vs => match vs with
    | [v] => Ψ v.strip H
    | vs => Ψ (.tup vs) H
  | ⟨n, b, u, H, d :: ds, c⟩ => grd ((d :: ds).all (isDefd H) && nodupB (d :: ds)) (readVs2 P ⟨n, b, u, (d :: ds).foldl (fun H id => H.set id none) H, [], c⟩ fn.results.toList [] fun vs => match vs with
    | [v] => Ψ v.strip ((d :: ds).foldl (fun H id => H.set id none) H)
    | vs => Ψ (.tup vs) ((d :: ds).foldl (fun H id => H.set id none) H))

def retΦ2 (P : Program) (fn : Func) (Ψ : V → Heap → Prop) : Exit → S2 → Prop
  | .normal, s | .ret, s => retΦ2' P fn Ψ s
  | _, _ => False

theorem readVs2_imp {s : S2} (hw : s.Wf) (k : List V → Prop) : ∀ (rs : List ResultVar) (acc : List V), readVs2 P s rs acc k → readVs P s.st rs acc k := by
  intro rs
  induction rs with
  | nil => intro acc h; exact h
  | cons r rs ih =>
    intro acc h
    simp only [readVs2] at h
    simp only [readVs]
    cases r with
    | tmp t =>
      simp only [readV2, force_iff] at h
      simp only [readV]
      rw [show (s.st.tmps.getD t .bad) = look s.upd s.base t from S2.ev_eq hw (.tmp t)]
      exact ih _ h
    | cell a t =>
      simp only [readV2, force_iff] at h
      simp only [readV]
      rw [show (s.st.tmps.getD a .bad) = look s.upd s.base a from S2.ev_eq hw (.tmp a)]
      exact evLoad_mono (fun v hv => ih _ hv) (evLoad2_imp (σ := s.st) h)

theorem isDefd_spec {H : Heap} {id : Nat} (h : isDefd H id = true) : H[id]? = some (some .defd) := by
  unfold isDefd at h
  split at h
  · assumption
  · cases h

theorem retΦ2_imp {fn : Func} {Ψ : V → Heap → Prop} {x : Exit} {s : S2} (hw : s.Wf) (h : retΦ2 P fn Ψ x s) : retΦ P fn Ψ x s.st := by
  have main : retΦ2' P fn Ψ s → retΦ P fn Ψ .ret s.st := by
    intro h
    unfold retΦ
    obtain ⟨n, b, u, H, ds, c⟩ := s
    cases ds with
    | nil =>
      have hnd : ([] : List Nat).Nodup := .nil
      have hno : ∀ id ∈ ([] : List Nat), H[id]? = some (some Blk.defd) := fun id hid => by cases hid
      exact And.intro hno (And.intro hnd (readVs2_imp hw _ fn.results.toList [] h))
    | cons d ds =>
      simp only [retΦ2'] at h
      rw [grd_iff, Bool.and_eq_true] at h
      have h1 : ∀ id ∈ d :: ds, H[id]? = some (some Blk.defd) := fun id hid => isDefd_spec (List.all_eq_true.1 h.1.1 id hid)
      exact And.intro h1 (And.intro (nodupB_spec _ h.1.2) (readVs2_imp (s := ⟨n, b, u, (d :: ds).foldl (fun H id => H.set id none) H, [], c⟩) ⟨hw.n, hw.d⟩ _ fn.results.toList [] h.2))
  cases x with
  | normal => exact main h
  | ret => exact main h
  | _ => exact h.elim

def begin2 (fn : Func) (args : List V) (H : Heap) : S2 := { n := fn.ntmps, base := args ++ List.replicate (fn.ntmps - args.length) (.tup []), upd := [], H := H, defs := [], cur := none }

theorem begin2_wf (fn : Func) (args : List V) (H : Heap) : (begin2 fn args H).Wf := ⟨by simp [begin2]; omega, fun x hx => by cases hx⟩

/-- A function's contract, out of its body. -/
theorem stCall2 {f : FuncId} {fn : Func} {c : Code} {args : List V} {H : Heap} {Ψ : V → Heap → Prop} (hf : P.funcs[f]? = some fn) (hb : fn.body = some c) (hname : (fn.name == "runtime.NumGoroutine") = false)
    (hk : evCode2 P G c (retΦ2 P fn Ψ) (begin2 fn args H)) : Call2 P G f args H Ψ := by
  refine ⟨⟨fn, hf, by rw [hb]; rfl, hname⟩, ?_⟩
  intro w e us hR hargs
  refine callsIn_of_wp_marks hf hb trivial ?_ rfl
  have hst : RSt G (begin_ fn args H) { tmps := us.toArray ++ Array.replicate (fn.ntmps - us.toArray.size) undef, defers := [] } w e := by
    refine ⟨hR, ?_, rfl, fun id hid => by simp [begin_] at hid, fun id hid => by simp [begin_] at hid⟩
    have := reps_begin hargs fn.ntmps
    simpa [begin_] using this
  have hbeg : (begin2 fn args H).st = begin_ fn args H := rfl
  refine wpIn_mono (evCode2_sound c fn.ntmps _ _ (begin2_wf fn args H) rfl hk _ w e (hbeg ▸ hst)) ?_
  rintro x a' w' ⟨σ', e', ⟨s', rfl, hw', hn', hΦ⟩, hc, hst', hx⟩
  have := retΦ2_imp hw' hΦ
  cases x with
  | normal => exact retΦ_leaves hst' this hx
  | ret => exact retΦ_leaves hst' this hx
  | _ => exact this.elim

/-! ### loops -/
/-- Temporaries that say less, one by one. -/
def vwl (m : Nat) (u : List (Nat × V)) (b : List V) : Nat → List V → Prop
  | _, [] => True
  | i, v :: vs => match v with
    | .bad => vwl m u b (i + 1) vs
    | v => VW m (look u b i) v ∧ vwl m u b (i + 1) vs

theorem vwl_spec {m : Nat} {u : List (Nat × V)} {b : List V} (hd : ∀ x ∈ u, x.1 < b.length) : ∀ (vs : List V) (i : Nat), vwl m u b i vs → i + vs.length = b.length → VWs m ((app u b).drop i) vs := by
  intro vs
  induction vs with
  | nil =>
    intro i _ hl
    have : (app u b).drop i = [] := List.drop_of_length_le (by rw [app_length]; simp at hl; omega)
    rw [this]
    exact .nil
  | cons v vs ih =>
    intro i h hl
    simp only [List.length_cons] at hl
    have hi : i < (app u b).length := by rw [app_length]; omega
    rw [List.drop_eq_getElem_cons hi]
    have hlook : (app u b)[i] = look u b i := by
      rw [← look_eq b.length b (Nat.le_refl _) i u hd, List.getD_eq_getElem?_getD, List.getElem?_eq_getElem hi]
      rfl
    have key : VW m (look u b i) v ∧ vwl m u b (i + 1) vs := by
      unfold vwl at h
      split at h
      · exact ⟨.bad _, h⟩
      · exact h
    refine .cons ?_ (ih (i + 1) key.2 (by omega))
    rw [hlook]
    exact key.1

/-- The state at a loop's head: temporaries written out. -/
def headS (n : Nat) (vs : List V) (H : Heap) (defs : List Nat) (cur : Option Nat) : S2 := { n := n, base := vs, upd := [], H := H, defs := defs, cur := cur }

/-- To say less: temporaries and blocks. -/
theorem weak2 {s : S2} {vs : List V} {H : Heap} {cur : Option Nat} (hw : s.Wf) (hl : vs.length = s.base.length) (ht : vwl H.length s.upd s.base 0 vs) (hb : BWs H.length s.H H) (hd : ∀ id ∈ s.defs, id < H.length) (hcur : s.cur = cur) (hc : ∀ id, cur = some id → id < H.length) :
    Weak G s.st (headS s.n vs H s.defs cur).st := by
  subst hcur
  have := Weak.mk' (G := G) (σ := s.st) vs H (by
    have := vwl_spec hw.d vs 0 ht (by omega)
    rw [List.drop_zero] at this
    exact this) hb hd hc
  exact this


/-- A loop: an invariant over states, with a number that every round lowers. -/
theorem wpc_loop2 {c : Code} {Φ : Exit → S2 → Prop} {s : S2} {n : Nat} (I : Nat → S2 → Prop) (m0 : Nat) (s0 : S2) (hw0 : Weak G s.st s0.st) (h0 : I m0 s0)
    (hI : ∀ m s1, I m s1 → s1.Wf ∧ s1.n = n ∧ s.H.length ≤ s1.H.length ∧ s1.cur = s.cur)
    (round : ∀ m s1, I m s1 → evCode2 P G c (fun x s' => match x with
      | .normal => s'.Wf → ∃ m' s2, m' < m ∧ Weak G s'.st s2.st ∧ I m' s2
      | x => Φ x s') s1) : WPc P G (.loop c) (toΦ n Φ) s.st := by
  intro a w e h
  have hws := hw0
  obtain ⟨e0, hst0, hx0⟩ := hw0.2 a w e h
  refine wpIn_loop_rel (m := m0) (fun m a' w' => ∃ s1 e1, I m s1 ∧ RSt G s1.st a' w' e1 ∧ Ext s.st.H w e s1.st.H w' e1) ?_ ⟨s0, e0, h0, hst0, hx0 _ _ _ (hI _ _ h0).2.2.1 (.refl _ _ _)⟩
  rintro m a1 w1 ⟨s1, e1, hI1, hst1, hx1⟩
  obtain ⟨hw1, hn1, hl1, hc1⟩ := hI m s1 hI1
  have := evCode2_sound c n _ s1 hw1 hn1 (round m s1 hI1) a1 w1 e1 hst1
  rw [cur_same (σ := s.st) (σ' := s1.st) h hc1 hx1] at this
  refine wpIn_mono this ?_
  rintro x a2 w2 ⟨σ2, e2, ⟨s2, rfl, hw2, hn2, hΦ⟩, hc2, hst2, hx2⟩
  cases x with
  | normal =>
    obtain ⟨m', s3, hlt, hwk, hI3⟩ := hΦ hw2
    obtain ⟨e3, hst3, hx3⟩ := hwk.2 a2 w2 e2 hst2
    exact ⟨m', hlt, s3, e3, hI3, hst3, hx3 _ _ _ (hI _ _ hI3).2.2.1 (hx1.trans hx2)⟩
  | _ => exact ⟨s2.st, e2, ⟨s2, rfl, hw2, hn2, hΦ⟩, hc2.trans hc1, hst2, hx1.trans hx2⟩

/-- The heap's first blocks. -/
theorem bws_app {H X : Heap} (hs : Scoped H) : BWs H.length (H ++ X) H := BWs.of fun i y hy => by
  refine ⟨y, by rw [List.getElem?_append_left (List.getElem?_eq_some_iff.1 hy).1]; exact hy, ?_⟩
  cases y with
  | none => exact .drop _
  | some b => exact hs i b hy

theorem Scoped.bws {H : Heap} (hs : Scoped H) : BWs H.length H H := by
  have := bws_app (X := []) hs
  rwa [List.append_nil] at this

theorem VW.int {n : Nat} {k : IntKind} {a b : Int} (h : a = b) : VW n (.im (.int k a)) (.im (.int k b)) := h ▸ .im _
theorem VW.boolE {n : Nat} {a b : Bool} (h : a = b) : VW n (.im (.bool a)) (.im (.bool b)) := h ▸ .im _

theorem IterOf.mk {f : FuncId} {pre caps : List V} {items : List (List V)} {K : Heap → Prop} (h : ∀ (id n : Nat) (Inv : Nat → Heap → Prop) (Fin : Heap → Prop) (H : Heap),
    (∀ i H', Inv i H' → H'.length = n ∧ id < n ∧ K H') →
    (∀ H', Fin H' → H'.length = n) →
    (∀ (i : Nat) (x : List V) (H' : Heap), items[i]? = some x → Inv i H' → Scoped H' → StYield P G id x H' fun r H'' => H''.length = H'.length ∧ ((r = .bool true ∧ Inv (i + 1) H'') ∨ (r = .bool false ∧ Fin H''))) →
    (∀ H', Inv items.length H' → Fin H') → Inv 0 H → Scoped H →
    StCall P G f ((pre ++ [V.yld id] ++ caps).map V.strip) H fun _ H' => Fin H') : IterOf P G f pre caps items K :=
  fun id n Inv Fin H h1 h2 h3 h4 h5 => StCall.inScope fun hs => h id n Inv Fin H h1 h2 h3 h4 h5 hs

theorem evLoadCells2_congr {t : TypeId} {vs vs' : List V} {k : V → Prop} (h : vs = vs') (hk : evLoadCells2 P t vs' k) : evLoadCells2 P t vs k := h ▸ hk

theorem Call2.free {f : FuncId} {args : List V} {Ψ : V → Prop} (ha : ∀ v ∈ args, v.Free) (h : Call2 P G f args [] fun r _ => r.Free ∧ Ψ r) (H : Heap) :
    Call2 P G f args H fun r H' => H' = H ∧ Ψ r := ⟨h.1, h.2.free ha H⟩

theorem Call2.cut {f : FuncId} {args : List V} {H : Heap} {Ψ : V → Heap → Prop} (h : Call2 P G f args H fun r H' => ∃ H1, Cut H.length H H' H1 ∧ VW H.length r r ∧ Ψ r H1) : Call2 P G f args H Ψ := ⟨h.1, h.2.cut⟩

theorem wrap_i64 {n : Int} (h1 : -9223372036854775808 ≤ n) (h2 : n < 9223372036854775808) : IntKind.i64.wrap n = n := by
  simp [IntKind.wrap, IntKind.bits, IntKind.signed]
  omega


theorem VW.free {n : Nat} {v : V} (h : v.Free) : VW n v v := by
  induction h with
  | im v => exact .im v
  | str l => exact .str l
  | dat es rows fl _ => exact .dat es rows fl
  | rp cs => exact .rp cs
  | agg cs h ih => exact .agg cs cs rfl fun i v v' h1 h2 => by rw [h1] at h2; cases h2; exact ih v (List.mem_of_getElem? h1)
  | tup cs h ih => exact .tup cs cs rfl fun i v v' h1 h2 => by rw [h1] at h2; cases h2; exact ih v (List.mem_of_getElem? h1)
  | fn f a b ha hb iha ihb => exact .fn f a b (fun i v h => iha v (List.mem_of_getElem? h)) (fun i v h => ihb v (List.mem_of_getElem? h))
  | bad => exact .bad _

theorem Cut.app {n : Nat} {H H1 X : Heap} (hs : Scoped H1) (hl : H1.length = n) : Cut n H (H1 ++ X) H1 := ⟨X, rfl, hl, fun id b hb => .inr (by rw [← hl]; exact hs id b hb)⟩
theorem Cut.self {n : Nat} {H H1 : Heap} (hs : Scoped H1) (hl : H1.length = n) : Cut n H H1 H1 := by
  have := Cut.app (H := H) (X := []) hs hl
  rwa [List.append_nil] at this

theorem VW.unit (n : Nat) : VW n (.tup []) (.tup []) := .tup [] [] rfl fun i v v' h => by simp at h

theorem VW.mono {n m : Nat} (hm : n ≤ m) {v v' : V} (h : VW n v v') : VW m v v' := by
  induction h with
  | bad v => exact .bad v
  | im v => exact .im v
  | str l => exact .str l
  | ptr id off h => exact .ptr id off (by omega)
  | mp id h => exact .mp id (by omega)
  | yld id h => exact .yld id (by omega)
  | arr id es len h => exact .arr id es len (by omega)
  | nil es es' fl fl' h => exact .nil es es' fl fl' h
  | dat es rows fl => exact .dat es rows fl
  | no es rows fl => exact .no es rows fl
  | cls es rows c => exact .cls es rows c
  | rows es rows rows' fl hl hr hh => exact .rows es rows rows' fl hl hr hh
  | rp cs => exact .rp cs
  | fn f a b ha hb iha ihb => exact .fn f a b iha ihb
  | agg cs cs' hl h ih => exact .agg cs cs' hl ih
  | tup cs cs' hl h ih => exact .tup cs cs' hl ih

theorem VWs.mono {n m : Nat} (hm : n ≤ m) {vs vs' : List V} (h : VWs n vs vs') : VWs m vs vs' := by
  induction h with
  | nil => exact .nil
  | cons h _ ih => exact .cons (h.mono hm) ih

theorem BW.mono {n m : Nat} (hm : n ≤ m) {b b' : Option Blk} (h : BW n b b') : BW m b b' := by
  cases h with
  | drop b => exact .drop b
  | cells t vs vs' h => exact .cells t vs vs' (h.mono hm)
  | map es es' c h1 h2 => exact .map es es' c (h1.mono hm) (h2.mono hm)
  | defd => exact .defd
  | iter m since stepped seen hd => exact .iter m since stepped seen (by omega)
  | loop st pend tmps tmps' ps a b d h hd => exact .loop st pend tmps tmps' ps a b d (h.mono hm) (by omega)

theorem Scoped.app {H L : Heap} (hs : Scoped H) (hb : ∀ b : Blk, some b ∈ L → BW (H.length + L.length) (some b) (some b)) : Scoped (H ++ L) := by
  intro id b h
  rw [List.length_append]
  by_cases hid : id < H.length
  · rw [List.getElem?_append_left hid] at h
    exact (hs id b h).mono (by omega)
  · rw [List.getElem?_append_right (by omega)] at h
    exact hb b (List.mem_of_getElem? h)

theorem VW.datE {n es : Nat} {rows rows' : List (List V)} {fl : Fl} (h : rows = rows') : VW n (.dat es rows fl) (.dat es rows' fl) := h ▸ .dat es rows fl

theorem VW.ptrE {n i j o : Nat} (h : i = j) (hj : j < n) : VW n (.ptr i o) (.ptr j o) := by
  subst h
  exact .ptr i o hj

/-- A block of cells in which no block is named. -/
theorem BW.free {n : Nat} {t : TypeId} {vs : List V} (h : ∀ v ∈ vs, v.Free) : BW n (some (.cells t vs)) (some (.cells t vs)) :=
  .cells t vs vs (.self fun _ v hv => .free (h v (List.mem_of_getElem? hv)))

theorem free_tup2 {a b : V} (h1 : a.Free) (h2 : b.Free) : (V.tup [a, b]).Free := .tup _ fun v hv => by
  simp only [List.mem_cons, List.not_mem_nil, or_false] at hv
  rcases hv with rfl | rfl
  · exact h1
  · exact h2

/-! ### blocks behind a heap that isn't known -/
theorem ga0 {α : Type} (H L : List α) (a : α) : (H ++ a :: L)[H.length]? = some a := by
  simp
theorem ga1 {α : Type} (H L : List α) (a b : α) : (H ++ a :: b :: L)[H.length + 1]? = some b := get_app H (a :: b :: L) 1
theorem ga2 {α : Type} (H L : List α) (a b c : α) : (H ++ a :: b :: c :: L)[H.length + 2]? = some c := get_app H (a :: b :: c :: L) 2
theorem ga3 {α : Type} (H L : List α) (a b c d : α) : (H ++ a :: b :: c :: d :: L)[H.length + 3]? = some d := get_app H (a :: b :: c :: d :: L) 3
theorem ga4 {α : Type} (H L : List α) (a b c d e : α) : (H ++ a :: b :: c :: d :: e :: L)[H.length + 4]? = some e := get_app H (a :: b :: c :: d :: e :: L) 4
theorem ga5 {α : Type} (H L : List α) (a b c d e f : α) : (H ++ a :: b :: c :: d :: e :: f :: L)[H.length + 5]? = some f := get_app H (a :: b :: c :: d :: e :: f :: L) 5
theorem sa0 {α : Type} (H L : List α) (a x : α) : (H ++ a :: L).set H.length x = H ++ x :: L := by
  simp
theorem sa1 {α : Type} (H L : List α) (a b x : α) : (H ++ a :: b :: L).set (H.length + 1) x = H ++ a :: x :: L := set_app H (a :: b :: L) 1 x
theorem sa2 {α : Type} (H L : List α) (a b c x : α) : (H ++ a :: b :: c :: L).set (H.length + 2) x = H ++ a :: b :: x :: L := set_app H (a :: b :: c :: L) 2 x
theorem sa3 {α : Type} (H L : List α) (a b c d x : α) : (H ++ a :: b :: c :: d :: L).set (H.length + 3) x = H ++ a :: b :: c :: x :: L := set_app H (a :: b :: c :: d :: L) 3 x
theorem sa4 {α : Type} (H L : List α) (a b c d e x : α) : (H ++ a :: b :: c :: d :: e :: L).set (H.length + 4) x = H ++ a :: b :: c :: d :: x :: L := set_app H (a :: b :: c :: d :: e :: L) 4 x
theorem sa5 {α : Type} (H L : List α) (a b c d e f x : α) : (H ++ a :: b :: c :: d :: e :: f :: L).set (H.length + 5) x = H ++ a :: b :: c :: d :: e :: x :: L := set_app H (a :: b :: c :: d :: e :: f :: L) 5 x

end Go.Abs
