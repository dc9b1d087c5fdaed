/- Regions that draw their order: every order. -/
import Derived.Test.YteklnflddoekfaaDoorAbsSound13
namespace Go.Abs
open Go.RowKit

variable {P : Program} {G : Nat → Option (List V)}

/-- The operations that an operation waits for. -/
def Bnd (o : Oper) : List Nat := (o.after.toList.filter (Region.binds .any)).map (·.on)

/-- Bit by bit: what an operation waits for, through others too. -/
def maskOf (ms : List Nat) (es : List Nat) : Nat := es.foldl (fun m e => m ||| (2 ^ e ||| ms.getD e 0)) 0
def masksG : List (List Nat) → List Nat → List Nat
  | [], ms => ms
  | b :: bs, ms => masksG bs (ms ++ [maskOf ms b])

theorem maskOf_bit (ms : List Nat) (es : List Nat) (j : Nat) (h : (maskOf ms es).testBit j = true) : ∃ e ∈ es, j = e ∨ (ms.getD e 0).testBit j = true := by
  have gen : ∀ (es : List Nat) (m : Nat), (es.foldl (fun m e => m ||| (2 ^ e ||| ms.getD e 0)) m).testBit j = true → m.testBit j = true ∨ ∃ e ∈ es, j = e ∨ (ms.getD e 0).testBit j = true := by
    intro es
    induction es with
    | nil => intro m h; exact .inl h
    | cons e es ih =>
      intro m h
      rcases ih _ h with h1 | ⟨e', he', h1⟩
      · rw [Nat.testBit_or, Nat.testBit_or, Nat.testBit_two_pow] at h1
        simp only [Bool.or_eq_true, decide_eq_true_eq] at h1
        rcases h1 with h1 | h1 | h1
        · exact .inl h1
        · exact .inr ⟨e, by simp, .inl h1.symm⟩
        · exact .inr ⟨e, by simp, .inr h1⟩
      · exact .inr ⟨e', by simp [he'], h1⟩
  rcases gen es 0 h with h1 | h1
  · simp at h1
  · exact h1

theorem masksG_spec (bs : List (List Nat)) : ∀ (ms : List Nat) (i j : Nat), ((masksG bs ms).getD i 0).testBit j = true →
    (i < ms.length ∧ (ms.getD i 0).testBit j = true) ∨
    ∃ b, ms.length ≤ i ∧ bs[i - ms.length]? = some b ∧ ∃ e ∈ b, j = e ∨ (((masksG bs ms).getD e 0).testBit j = true ∧ e < i) := by
  induction bs with
  | nil =>
    intro ms i j h
    refine .inl ⟨?_, h⟩
    rcases Nat.lt_or_ge i ms.length with h1 | h1
    · exact h1
    · have : masksG [] ms = ms := rfl
      rw [this, List.getD_eq_getElem?_getD, List.getElem?_eq_none h1] at h
      simp at h
  | cons b bs ih =>
    intro ms i j h
    have hpre : ∀ (bs : List (List Nat)) (ms : List Nat) (e : Nat), e < ms.length → (masksG bs ms).getD e 0 = ms.getD e 0 := by
      intro bs
      induction bs with
      | nil => intro ms e _; rfl
      | cons b bs ih =>
        intro ms e he
        show (masksG bs (ms ++ [maskOf ms b])).getD e 0 = _
        rw [ih _ e (by simp; omega)]
        simp [List.getD_eq_getElem?_getD, List.getElem?_append_left he]
    have hm : masksG (b :: bs) ms = masksG bs (ms ++ [maskOf ms b]) := rfl
    rw [hm] at h ⊢
    rcases ih _ i j h with ⟨h1, h2⟩ | ⟨b', h1, h2, e, he, h3⟩
    · by_cases hi : i < ms.length
      · refine .inl ⟨hi, ?_⟩
        rw [List.getD_eq_getElem?_getD, List.getElem?_append_left hi] at h2
        rw [List.getD_eq_getElem?_getD]
        exact h2
      · have hie : i = ms.length := by simp at h1; omega
        subst hie
        rw [List.getD_eq_getElem?_getD, List.getElem?_append_right (Nat.le_refl _)] at h2
        simp at h2
        obtain ⟨e, he, h3⟩ := maskOf_bit ms b j h2
        refine .inr ⟨b, Nat.le_refl _, by simp, e, he, ?_⟩
        rcases h3 with h3 | h3
        · exact .inl h3
        · have hlt : e < ms.length := by
            rcases Nat.lt_or_ge e ms.length with h4 | h4
            · exact h4
            · rw [List.getD_eq_getElem?_getD, List.getElem?_eq_none h4] at h3
              simp at h3
          refine .inr ⟨?_, hlt⟩
          rw [hpre bs _ e (by simp; omega)]
          rw [List.getD_eq_getElem?_getD, List.getElem?_append_left hlt, ← List.getD_eq_getElem?_getD]
          exact h3
    · simp only [List.length_append, List.length_cons, List.length_nil] at h1 h2
      refine .inr ⟨b', by omega, ?_, e, he, h3⟩
      rw [show i - ms.length = (i - (ms.length + (0 + 1))) + 1 by omega]
      simpa using h2

def dstIs (d : Option Tmp) (t : Tmp) : Bool := match d with | some x => Nat.beq x t | none => false

/-- May the first q operations be carried out in any order, and the others, one by one, behind them? -/
def drawOk (ops : List Oper) (q : Nat) : Bool :=
  let ms := masksG (ops.map Bnd) []
  let ds := (ops.map (·.dst)).zipIdx
  ops.zipIdx.all fun (o, i) =>
    (Bnd o).all (fun e => Nat.blt e i) &&
    (if i < q then
      (match o.dst with | none => true | some t => ds.all fun (d, j) => Nat.beq j i || !dstIs d t) &&
      (o.looksAt ops.toArray).all fun t => ds.all fun (d, j) => !dstIs d t || (if j < i then (ms.getD i 0).testBit j else Nat.beq j i || (ms.getD j 0).testBit i)
     else (List.range i).all fun j => (ms.getD i 0).testBit j)

structure DrawOk (ops : List Oper) (q : Nat) : Prop where
  up : ∀ i o, ops[i]? = some o → ∀ e ∈ Bnd o, e < i
  one : ∀ i o t, i < q → ops[i]? = some o → o.dst = some t → ∀ j o', j ≠ i → ops[j]? = some o' → o'.dst ≠ some t
  look : ∀ i o t, i < q → ops[i]? = some o → t ∈ o.looksAt ops.toArray → ∀ j o', ops[j]? = some o' → o'.dst = some t →
    (j < i ∧ ((masksG (ops.map Bnd) []).getD i 0).testBit j = true) ∨ j = i ∨ (i < j ∧ ((masksG (ops.map Bnd) []).getD j 0).testBit i = true)
  tail : ∀ i o j, q ≤ i → ops[i]? = some o → j < i → ((masksG (ops.map Bnd) []).getD i 0).testBit j = true

theorem mem_zipIdx' {α : Type} {l : List α} {i : Nat} {x : α} (h : l[i]? = some x) : (x, i) ∈ l.zipIdx := by
  rw [List.mem_zipIdx_iff_getElem?]
  exact h

theorem drawOk_spec {ops : List Oper} {q : Nat} (h : drawOk ops q = true) : DrawOk ops q := by
  unfold drawOk at h
  simp only [List.all_eq_true] at h
  have hi : ∀ i o, ops[i]? = some o → _ := fun i o ho => h (o, i) (mem_zipIdx' ho)
  have hds : ∀ j o', ops[j]? = some o' → (o'.dst, j) ∈ (ops.map (·.dst)).zipIdx := fun j o' hj => mem_zipIdx' (by rw [List.getElem?_map, hj]; rfl)
  refine ⟨fun i o ho e he => ?_, fun i o t hq ho hd j o' hne hj hd' => ?_, fun i o t hq ho ht j o' hj hd => ?_, fun i o j hq ho hj => ?_⟩
  · have := hi i o ho
    simp only [Bool.and_eq_true, List.all_eq_true] at this
    exact Nat.blt_eq.mp (this.1 e he)
  · have := hi i o ho
    simp only [Bool.and_eq_true, if_pos hq, hd, List.all_eq_true] at this
    have h1 := this.2.1 _ (hds j o' hj)
    simp only [hd', dstIs, Bool.or_eq_true, Bool.not_eq_true'] at h1
    rcases h1 with h1 | h1
    · exact hne (Nat.eq_of_beq_eq_true h1)
    · rw [Nat.beq_refl] at h1; cases h1
  · have := hi i o ho
    simp only [Bool.and_eq_true, if_pos hq, List.all_eq_true] at this
    have h1 := this.2.2 t ht _ (hds j o' hj)
    simp only [hd, dstIs, Nat.beq_refl, Bool.not_true, Bool.false_or] at h1
    by_cases hji : j < i
    · rw [if_pos hji] at h1
      exact .inl ⟨hji, h1⟩
    · rw [if_neg hji] at h1
      simp only [Bool.or_eq_true] at h1
      rcases h1 with h1 | h1
      · exact .inr (.inl (Nat.eq_of_beq_eq_true h1))
      · by_cases he : j = i
        · exact .inr (.inl he)
        · exact .inr (.inr ⟨by omega, h1⟩)
  · have := hi i o ho
    simp only [Bool.and_eq_true, if_neg (Nat.not_lt.2 hq), List.all_eq_true] at this
    exact this.2 j (List.mem_range.2 hj)

/-- What has been carried out: with each operation what it waits for. -/
def Closed (ops : List Oper) (L : Nat → Bool) : Prop := ∀ i o, ops[i]? = some o → L i = true → ∀ e ∈ Bnd o, L e = true

theorem closed_mask {ops : List Oper} {L : Nat → Bool} (_hup : ∀ i o, ops[i]? = some o → ∀ e ∈ Bnd o, e < i) (hc : Closed ops L) : ∀ (i : Nat) (o : Oper), ops[i]? = some o → (∀ e ∈ Bnd o, L e = true) →
    ∀ j, ((masksG (ops.map Bnd) []).getD i 0).testBit j = true → L j = true := by
  intro i
  induction i using Nat.strongRecOn with
  | _ i ih =>
    intro o ho hall j hj
    rcases masksG_spec (ops.map Bnd) [] i j hj with ⟨h1, _⟩ | ⟨b, _, hb, e, he, h3⟩
    · simp at h1
    · simp only [List.length_nil, Nat.sub_zero, List.getElem?_map, ho, Option.map_some, Option.some.injEq] at hb
      subst hb
      rcases h3 with rfl | ⟨h3, h4⟩
      · exact hall _ he
      · have hlt : e < ops.length := by have := (List.getElem?_eq_some_iff.1 ho).1; omega
        exact ih e h4 ops[e] (List.getElem?_eq_getElem hlt) (fun e' he' => hc e _ (List.getElem?_eq_getElem hlt) (hall e he) e' he') j h3

/-! ### states on the way -/
/-- Whose temporary is it? -/
def own (ops : List Oper) (q : Nat) (t : Nat) : Option Nat := (List.range q).find? fun j => match ops[j]? with | some o => dstIs o.dst t | none => false

theorem own_of {ops : List Oper} {q : Nat} (hok : DrawOk ops q) {i : Nat} {o : Oper} {t : Nat} (hi : i < q) (ho : ops[i]? = some o) (hd : o.dst = some t) : own ops q t = some i := by
  unfold own
  have hsome : ((List.range q).find? fun j => match ops[j]? with | some o => dstIs o.dst t | none => false).isSome := by
    rw [List.find?_isSome]
    exact ⟨i, List.mem_range.2 hi, by simp [ho, hd, dstIs]⟩
  obtain ⟨j, hj⟩ := Option.isSome_iff_exists.1 hsome
  rw [hj]
  have h1 := List.find?_some hj
  split at h1
  · rename_i o' ho'
    unfold dstIs at h1
    split at h1
    · rename_i x hx
      have := Nat.eq_of_beq_eq_true h1
      subst this
      by_cases hji : j = i
      · rw [hji]
      · exact absurd hx (hok.one i o x hi ho hd j o' hji ho')
    · cases h1
  · cases h1

theorem own_some {ops : List Oper} {q t j : Nat} (h : own ops q t = some j) : j < q ∧ ∃ o, ops[j]? = some o ∧ o.dst = some t := by
  unfold own at h
  have h1 := List.find?_some h
  have h2 := List.mem_of_find?_eq_some h
  refine ⟨List.mem_range.1 h2, ?_⟩
  split at h1
  · rename_i o ho
    refine ⟨o, ho, ?_⟩
    unfold dstIs at h1
    split at h1
    · rename_i x hx
      rw [hx, Nat.eq_of_beq_eq_true h1]
    · cases h1
  · cases h1

/-- The state when the operations of L have been carried out. -/
def stL (ops : List Oper) (q : Nat) (vals : Nat → V) (σ : St) (L : Nat → Bool) : St :=
  { σ with tmps := σ.tmps.mapIdx fun t v => match own ops q t with | some j => if L j then vals j else v | none => v }

theorem stL_get (ops : List Oper) (q : Nat) (vals : Nat → V) (σ : St) (L : Nat → Bool) (t : Nat) :
    (stL ops q vals σ L).tmps[t]? = (σ.tmps[t]?).map fun v => match own ops q t with | some j => if L j then vals j else v | none => v := by
  simp [stL]

theorem St.put_get (σ : St) (d : Option Tmp) (v : V) (t : Nat) : (σ.put d v).tmps[t]? = if d = some t then (σ.tmps[t]?).map (fun _ => v) else σ.tmps[t]? := by
  cases d with
  | none => simp [St.put]
  | some d =>
    simp only [St.put, Option.some.injEq]
    rw [List.getElem?_set]
    by_cases h : d = t
    · subst h
      simp only [if_true]
      split
      · rename_i hlt; simp [hlt]
      · rename_i hlt; simp [List.getElem?_eq_none (by omega : σ.tmps.length ≤ d)]
    · simp [h]

theorem st_ext {σ σ' : St} (h1 : σ.H = σ'.H) (h2 : σ.defs = σ'.defs) (h3 : σ.cur = σ'.cur) (h4 : ∀ t : Nat, σ.tmps[t]? = σ'.tmps[t]?) : σ = σ' := by
  cases σ; cases σ'
  simp only at *
  subst h1; subst h2; subst h3
  congr
  exact List.ext_getElem? h4

/-- One more. -/
theorem stL_put {ops : List Oper} {q : Nat} (hok : DrawOk ops q) (vals : Nat → V) (σ : St) (L : Nat → Bool) {i : Nat} {o : Oper} (hi : i < q) (ho : ops[i]? = some o) :
    (stL ops q vals σ L).put o.dst (vals i) = stL ops q vals σ (fun j => L j || decide (j = i)) := by
  refine st_ext (by simp [stL]) (by cases o.dst <;> rfl) (by simp [stL]) fun t => ?_
  rw [St.put_get, stL_get, stL_get]
  by_cases hd : o.dst = some t
  · rw [if_pos hd, own_of hok hi ho hd]
    cases σ.tmps[t]? <;> simp
  · rw [if_neg hd]
    congr 1
    funext v
    cases hw : own ops q t with
    | none => rfl
    | some j =>
      have : j ≠ i := by
        rintro rfl
        obtain ⟨_, o', ho', hd'⟩ := own_some hw
        rw [ho] at ho'
        cases ho'
        exact hd hd'
      simp [this]

/-- What an operation looks at is the same as in the order of the text. -/
theorem agree_stL {ops : List Oper} {q : Nat} (hok : DrawOk ops q) (vals : Nat → V) (σ : St) (L : Nat → Bool) (hc : Closed ops L) {i : Nat} {o : Oper} (hi : i < q) (ho : ops[i]? = some o)
    (hr : ∀ e ∈ Bnd o, L e = true) (hn : L i = false) : AgreeL ops o (stL ops q vals σ fun j => decide (j < i)) (stL ops q vals σ L) := by
  refine ⟨rfl, fun t ht => ?_⟩
  rw [stL_get, stL_get]
  congr 1
  funext v
  cases hw : own ops q t with
  | none => rfl
  | some j =>
    obtain ⟨hj, o', ho', hd'⟩ := own_some hw
    simp only
    rcases hok.look i o t hi ho ht j o' ho' hd' with ⟨h1, h2⟩ | rfl | ⟨h1, h2⟩
    · rw [closed_mask hok.up hc i o ho hr j h2]
      simp [h1]
    · rw [hn]
      simp
    · have : L j = false := by
        cases hL : L j with
        | false => rfl
        | true =>
          have := closed_mask hok.up hc j o' ho' (fun e he => hc j o' ho' hL e he) i h2
          rw [hn] at this; cases this
      rw [this]
      have : ¬ j < i := by omega
      simp [this]

/-- The values, out of the walk in the order of the text. -/
theorem evQs_vals {ops : List Oper} {q : Nat} (hok : DrawOk ops q) (hq : q ≤ ops.length) (σ : St) (k : St → Prop) : ∀ (m i : Nat) (vals : Nat → V), i + m = q →
    evQs P G ops ((ops.drop i).take m) (stL ops q vals σ fun j => decide (j < i)) k →
    ∃ vals' : Nat → V, (∀ j, j < i → vals' j = vals j) ∧ (∀ j o, i ≤ j → j < q → ops[j]? = some o → QC P G ops o (stL ops q vals' σ fun l => decide (l < j)) (vals' j)) ∧ k (stL ops q vals' σ fun j => decide (j < q)) := by
  intro m
  induction m with
  | zero =>
    intro i vals hm h
    have : i = q := by omega
    subst this
    exact ⟨vals, fun _ _ => rfl, fun j o h1 h2 _ => by omega, by simpa [evQs] using h⟩
  | succ m ih =>
    intro i vals hm h
    have hi : i < ops.length := by omega
    have ho : ops[i]? = some ops[i] := List.getElem?_eq_getElem hi
    have hdrop : (ops.drop i).take (m + 1) = ops[i] :: (ops.drop (i + 1)).take m := by
      rw [List.drop_eq_getElem_cons hi, List.take_succ_cons]
    rw [hdrop] at h
    obtain ⟨u, hu, hrest⟩ := evQs_ex h
    let vals1 : Nat → V := fun j => if j = i then u else vals j
    have heq : ∀ n, n ≤ i → (stL ops q vals1 σ fun j => decide (j < n)) = (stL ops q vals σ fun j => decide (j < n)) := by
      intro n hn
      refine st_ext rfl rfl rfl fun t => ?_
      rw [stL_get, stL_get]
      congr 1
      funext v
      cases own ops q t with
      | none => rfl
      | some j =>
        simp only
        by_cases hj : j < n
        · have : j ≠ i := by omega
          simp [vals1, this]
        · simp [hj]
    have hput : (stL ops q vals σ fun j => decide (j < i)).put ops[i].dst u = stL ops q vals1 σ fun j => decide (j < i + 1) := by
      rw [← heq i (Nat.le_refl _)]
      have h1 : u = vals1 i := by simp [vals1]
      rw [h1, stL_put hok vals1 σ _ (by omega) ho]
      congr 1
      funext j
      by_cases hj : j = i
      · simp [hj]
      · simp only [hj, decide_false, Bool.or_false, decide_eq_decide]
        omega
    rw [hput] at hrest
    obtain ⟨vals', h1, h2, h3⟩ := ih (i + 1) vals1 (by omega) hrest
    refine ⟨vals', fun j hj => ?_, fun j o hj1 hj2 hjo => ?_, h3⟩
    · rw [h1 j (by omega)]
      have : j ≠ i := by omega
      simp [vals1, this]
    · by_cases hj : j = i
      · subst hj
        rw [ho] at hjo
        cases hjo
        have hsame : (stL ops q vals' σ fun l => decide (l < j)) = (stL ops q vals σ fun l => decide (l < j)) := by
          rw [← heq j (Nat.le_refl _)]
          refine st_ext rfl rfl rfl fun t => ?_
          rw [stL_get, stL_get]
          congr 1
          funext v
          cases own ops q t with
          | none => rfl
          | some l =>
            simp only
            by_cases hl : l < j
            · simp [hl, h1 l (by omega)]
            · simp [hl]
        rw [hsame, h1 j (by omega)]
        have : vals1 j = u := by simp [vals1]
        rw [this]
        exact hu
      · exact h2 j o (by omega) hj2 hjo

/-- Behind the quiet operations: one by one. -/
theorem draw_tail {ops : List Oper} {q : Nat} (hok : DrawOk ops q) {k : St → Prop} {Q : Exit → Act → World → Prop} {ro : Option Nat} : ∀ (fuel m : Nat) (listed : Array Bool) (σ : St) (a : Act) (w : World) (e : Env),
    q ≤ m → m ≤ ops.length → ops.length ≤ m + fuel → listed.size = ops.length → (∀ j, j < ops.length → listed.getD j true = decide (j < m)) → RSt G σ a w e → evOps P G ops (ops.drop m) σ k →
    (∀ σ' a' w' e', k σ' → σ'.cur = σ.cur → RSt G σ' a' w' e' → Ext σ.H w e σ'.H w' e' → Q .normal a' w') →
    wpAnyIn (FW ro) 0 P .any ops.toArray Q fuel listed a w := by
  intro fuel
  induction fuel with
  | zero =>
    intro m listed σ a w e hq hm hf hs hl h hk hQ
    have hme : m = ops.length := by omega
    refine ⟨?_, ?_⟩
    · refine List.eq_nil_iff_forall_not_mem.2 fun j hj => ?_
      obtain ⟨h1, o, ho, _⟩ := mem_ready.1 hj
      have hlt : j < ops.length := by
        rw [List.getElem?_toArray] at ho
        exact (List.getElem?_eq_some_iff.1 ho).1
      rw [hl j hlt] at h1
      simp at h1
      omega
    · have : ops.drop m = [] := by rw [hme]; exact List.drop_length
      rw [this] at hk
      exact hQ σ a w e hk rfl h (.refl _ _ _)
  | succ fuel ih =>
    intro m listed σ a w e hq hm hf hs hl h hk hQ
    have hlF : ∀ j, j < ops.length → listed.getD j false = decide (j < m) := by
      intro j hj
      have := hl j hj
      have hjs : j < listed.size := by omega
      simp [hjs] at this ⊢
      exact this
    refine ⟨fun hr => ?_, fun i hi => ?_⟩
    · by_cases hme : m = ops.length
      · have : ops.drop m = [] := by rw [hme]; exact List.drop_length
        rw [this] at hk
        exact hQ σ a w e hk rfl h (.refl _ _ _)
      · exfalso
        have hlt : m < ops.length := by omega
        have : m ∈ Region.ready .any ops.toArray listed := by
          refine mem_ready.2 ⟨by rw [hl m hlt]; simp, ops[m], by simp [hlt], fun ed hed hb => ?_⟩
          have := hok.up m ops[m] (List.getElem?_eq_getElem hlt) ed.on (List.mem_map.2 ⟨ed, List.mem_filter.2 ⟨by simpa using hed, hb⟩, rfl⟩)
          rw [hlF _ (by omega)]
          simpa using this
        rw [hr] at this
        cases this
    · obtain ⟨h1, o, ho, hall⟩ := mem_ready.1 hi
      rw [List.getElem?_toArray] at ho
      have hlt : i < ops.length := (List.getElem?_eq_some_iff.1 ho).1
      rw [hl i hlt] at h1
      simp at h1
      have him : i = m := by
        by_cases hh : m < i
        · exfalso
          have hc : Closed ops fun j => decide (j < m) := fun j o' hj hL e' he' => by
            simp at hL ⊢
            have := hok.up j o' hj e' he'
            omega
          have := closed_mask hok.up hc i o ho (fun e' he' => by
            obtain ⟨ed, hed, rfl⟩ := List.mem_map.1 he'
            obtain ⟨h3, h4⟩ := List.mem_filter.1 hed
            have h5 := hall ed (by simpa using h3) h4
            have h6 := hok.up i o ho _ he'
            rw [hlF _ (by omega)] at h5
            exact h5) m (hok.tail i o m (by omega) ho hh)
          simp at this
        · omega
      subst him
      have hdrop : ops.drop i = o :: ops.drop (i + 1) := by
        rw [List.drop_eq_getElem_cons hlt]
        congr
        have := List.getElem?_eq_getElem hlt
        rw [this] at ho
        exact Option.some.inj ho
      rw [hdrop] at hk
      refine evOps_step ho h hk fun σ' a' w' e' hk' hc' hst' hx' => ?_
      refine ih (i + 1) _ σ' a' w' e' (by omega) (by omega) (by omega) (by simpa using hs) (fun j hj => ?_) hst' hk' fun σ2 a2 w2 e2 hk2 hc2 hst2 hx2 => hQ σ2 a2 w2 e2 hk2 (hc2.trans hc') hst2 (hx'.trans hx2)
      by_cases hji : i = j
      · subst hji
        have hjs : i < listed.size := by omega
        simp [hjs]
      · rw [getD_set_ne true hji, hl j hj]
        simp only [decide_eq_decide]
        omega

/-- The quiet operations, in any order. -/
theorem draw_quiet {ops : List Oper} {q : Nat} (hok : DrawOk ops q) (hql : q ≤ ops.length) {σ : St} {vals : Nat → V} {k : St → Prop} {Q : Exit → Act → World → Prop} {ro : Option Nat}
    (hd : σ.tmps.map (V.demote (heapCls σ.H)) = σ.tmps)
    (hvals : ∀ j o, j < q → ops[j]? = some o → QC P G ops o (stL ops q vals σ fun l => decide (l < j)) (vals j))
    (hk : evOps P G ops (ops.drop q) (stL ops q vals σ fun j => decide (j < q)) k) {w0 : World} {e0 : Env}
    (hQ : ∀ σ' a' w' e', k σ' → σ'.cur = σ.cur → RSt G σ' a' w' e' → Ext σ.H w0 e0 σ'.H w' e' → Q .normal a' w') :
    ∀ (fuel : Nat) (listed : Array Bool) (a : Act) (w : World) (e : Env), listed.size = ops.length → (∀ j, q ≤ j → j < ops.length → listed.getD j true = false) → Closed ops (fun j => listed.getD j false) →
    (ops.length ≤ fuel + (List.range q).countP (fun j => listed.getD j false)) →
    RSt G (stL ops q vals σ fun j => listed.getD j false) a w e → Ext σ.H w0 e0 σ.H w e → wpAnyIn (FW ro) 0 P .any ops.toArray Q fuel listed a w := by
  have hdem : ∀ L, (stL ops q vals σ L).tmps.map (V.demote (heapCls σ.H)) = (stL ops q vals σ L).tmps := by
    intro L
    refine List.ext_getElem? fun t => ?_
    rw [List.getElem?_map, stL_get]
    cases hv : σ.tmps[t]? with
    | none => rfl
    | some v =>
      simp only [Option.map_some, Option.some.injEq]
      have hvd : V.demote (heapCls σ.H) v = v := by
        have : (σ.tmps.map (V.demote (heapCls σ.H)))[t]? = σ.tmps[t]? := by rw [hd]
        rw [List.getElem?_map, hv] at this
        simpa using this
      cases hw : own ops q t with
      | none => exact hvd
      | some j =>
        obtain ⟨hj, o, ho, _⟩ := own_some hw
        simp only
        split
        · exact (hvals j o hj ho).1
        · exact hvd
  intro fuel
  induction fuel with
  | zero =>
    intro listed a w e hs htail hc hf h hx
    have hcnt : (List.range q).countP (fun j => listed.getD j false) ≤ q := by
      have := List.countP_le_length (p := fun j => listed.getD j false) (l := List.range q)
      simpa using this
    have hqe : q = ops.length := by omega
    have hallq : ∀ j, j < q → listed.getD j false = true := by
      have : (List.range q).countP (fun j => listed.getD j false) = (List.range q).length := by rw [List.length_range]; omega
      rw [List.countP_eq_length] at this
      exact fun j hj => this j (List.mem_range.2 hj)
    have hst : (stL ops q vals σ fun j => listed.getD j false) = stL ops q vals σ fun j => decide (j < q) := by
      refine st_ext rfl rfl rfl fun t => ?_
      rw [stL_get, stL_get]
      congr 1
      funext v
      cases hw : own ops q t with
      | none => rfl
      | some j =>
        obtain ⟨hj, _⟩ := own_some hw
        simp [hallq j hj, hj]
    rw [hst] at h
    refine draw_tail hok 0 q listed _ a w e (Nat.le_refl _) hql (by omega) hs (fun j hj => ?_) h hk fun σ' a' w' e' h1 h2 h3 h4 => hQ σ' a' w' e' h1 h2 h3 (hx.trans h4)
    have hjs : j < listed.size := by omega
    have := hallq j (by omega)
    simp [hjs] at this ⊢
    rw [this]
    simp; omega
  | succ fuel ih =>
    intro listed a w e hs htail hc hf h hx
    by_cases hallq : ∀ j, j < q → listed.getD j false = true
    · have hst : (stL ops q vals σ fun j => listed.getD j false) = stL ops q vals σ fun j => decide (j < q) := by
        refine st_ext rfl rfl rfl fun t => ?_
        rw [stL_get, stL_get]
        congr 1
        funext v
        cases hw : own ops q t with
        | none => rfl
        | some j =>
          obtain ⟨hj, _⟩ := own_some hw
          simp [hallq j hj, hj]
      rw [hst] at h
      have hcnt : (List.range q).countP (fun j => listed.getD j false) ≤ q := by
        have := List.countP_le_length (p := fun j => listed.getD j false) (l := List.range q)
        simpa using this
      refine draw_tail hok (fuel + 1) q listed _ a w e (Nat.le_refl _) hql (by omega) hs (fun j hj => ?_) h hk fun σ' a' w' e' h1 h2 h3 h4 => hQ σ' a' w' e' h1 h2 h3 (hx.trans h4)
      have hjs : j < listed.size := by omega
      by_cases hjq : j < q
      · have := hallq j hjq
        simp [hjs] at this ⊢
        rw [this]
        simp; omega
      · rw [htail j (by omega) hj]
        simp; omega
    · -- the least that has not been carried out may come up
      have hleast : ∃ j, j < q ∧ listed.getD j false = false ∧ ∀ l, l < j → listed.getD l false = true := by
        have : ∃ j, j < q ∧ listed.getD j false = false := by
          by_cases hh : ∃ j, j < q ∧ listed.getD j false = false
          · exact hh
          · exact absurd (fun j hj => by
              cases hb : listed.getD j false with
              | true => rfl
              | false => exact absurd ⟨j, hj, hb⟩ hh) hallq
        obtain ⟨j, hj⟩ := this
        induction j using Nat.strongRecOn with
        | _ j ihj =>
          by_cases hl : ∀ l, l < j → listed.getD l false = true
          · exact ⟨j, hj.1, hj.2, hl⟩
          · have : ∃ l, l < j ∧ listed.getD l false = false := by
              by_cases hh : ∃ l, l < j ∧ listed.getD l false = false
              · exact hh
              · exact absurd (fun l hlj => by
                  cases hb : listed.getD l false with
                  | true => rfl
                  | false => exact absurd ⟨l, hlj, hb⟩ hh) hl
            obtain ⟨l, hl1, hl2⟩ := this
            exact ihj l hl1 ⟨by omega, hl2⟩
      obtain ⟨j0, hj0, hj0f, hj0l⟩ := hleast
      have hgd : ∀ j, j < ops.length → listed.getD j true = listed.getD j false := by
        intro j hj
        have hjs : j < listed.size := by omega
        simp [hjs]
      refine ⟨fun hr => ?_, fun i hi => ?_⟩
      · exfalso
        have hlt : j0 < ops.length := by omega
        have : j0 ∈ Region.ready .any ops.toArray listed := by
          refine mem_ready.2 ⟨by rw [hgd j0 hlt]; exact hj0f, ops[j0], by simp [hlt], fun ed hed hb => ?_⟩
          exact hj0l _ (hok.up j0 ops[j0] (List.getElem?_eq_getElem hlt) ed.on (List.mem_map.2 ⟨ed, List.mem_filter.2 ⟨by simpa using hed, hb⟩, rfl⟩))
        rw [hr] at this
        cases this
      · obtain ⟨h1, o, ho, hall⟩ := mem_ready.1 hi
        rw [List.getElem?_toArray] at ho
        have hlt : i < ops.length := (List.getElem?_eq_some_iff.1 ho).1
        have hbnd : ∀ e' ∈ Bnd o, listed.getD e' false = true := fun e' he' => by
          obtain ⟨ed, hed, rfl⟩ := List.mem_map.1 he'
          obtain ⟨h3, h4⟩ := List.mem_filter.1 hed
          exact hall ed (by simpa using h3) h4
        have hiq : i < q := by
          rcases Nat.lt_or_ge i q with h2 | h2
          · exact h2
          · exfalso
            have := closed_mask hok.up hc i o ho hbnd j0 (hok.tail i o j0 h2 ho (by omega))
            simp only [hj0f] at this
            cases this
        have hif : listed.getD i false = false := by rw [← hgd i hlt]; exact h1
        refine qc_run ho (hvals i o hiq ho) (agree_stL hok vals σ _ hc hiq ho hbnd hif) h (hdem _) fun a' w' e' hst' hx' => ?_
        rw [stL_put hok vals σ _ hiq ho] at hst'
        have hLeq : (fun j => listed.getD j false || decide (j = i)) = fun j => (listed.setIfInBounds i true).getD j false := by
          funext j
          by_cases hji : i = j
          · subst hji
            have hjs : i < listed.size := by omega
            simp [hjs]
          · have hji' : ¬ j = i := fun h => hji h.symm
            rw [getD_set_ne false hji]
            simp [hji']
        rw [hLeq] at hst'
        refine ih _ a' w' e' (by simpa using hs) (fun j hj hjl => ?_) (fun j o' hj hL e'' he'' => ?_) ?_ hst' (hx.trans hx')
        · rw [getD_set_ne true (by omega)]
          exact htail j hj hjl
        · simp only [← congrFun hLeq j] at hL
          simp only [← congrFun hLeq e'']
          simp only [Bool.or_eq_true, decide_eq_true_eq] at hL ⊢
          rcases hL with hL | rfl
          · exact .inl (hc j o' hj hL e'' he'')
          · rw [ho] at hj
            cases hj
            exact .inl (hbnd e'' he'')
        · have hcnt : (List.range q).countP (fun j => (listed.setIfInBounds i true).getD j false) = (List.range q).countP (fun j => listed.getD j false) + 1 := by
            rw [← hLeq]
            have gen : ∀ n, (List.range n).countP (fun j => listed.getD j false || decide (j = i)) = (List.range n).countP (fun j => listed.getD j false) + if i < n then 1 else 0 := by
              intro n
              induction n with
              | zero => simp
              | succ n ihn =>
                rw [List.range_succ, List.countP_append, List.countP_append, ihn]
                simp only [List.countP_cons, List.countP_nil, Nat.zero_add]
                by_cases hni : n = i
                · subst hni
                  rw [hif]
                  simp
                · simp only [hni, decide_false, Bool.or_false]
                  by_cases h1 : i < n
                  · have h2 : i < n + 1 := by omega
                    rw [if_pos h1, if_pos h2]; omega
                  · have h2 : ¬ i < n + 1 := by omega
                    rw [if_neg h1, if_neg h2]; omega
            rw [gen q, if_pos hiq]
          rw [hcnt]
          omega

/-- A region that draws its order. -/
theorem wpc_draw {id : Nat} {ops : Array Oper} {Φ : Exit → St → Prop} {σ : St} (q : Nat) (hm : P.follows .mixedOrders = true) (hql : q ≤ ops.toList.length) (hok : drawOk ops.toList q = true)
    (h : evQs P G ops.toList (ops.toList.take q) { σ with tmps := σ.tmps.map (V.demote (heapCls σ.H)) } fun σ' => evOps P G ops.toList (ops.toList.drop q) σ' (Φ .normal)) : WPc P G (.region id ops true) Φ σ := by
  intro a w e hst
  have hok := drawOk_spec hok
  refine wpIn_region_any hm ?_
  let σ1 : St := { σ with tmps := σ.tmps.map (V.demote (heapCls σ.H)) }
  obtain ⟨hst1, hx1⟩ := hst.drew
  have hst2 : RSt G σ1 a w.drew e := ⟨hst1.heap, ⟨by
    show (σ.tmps.map _).length = _
    simpa using hst1.tmps.1, fun i v u hv hu => by
    simp only [σ1, List.getElem?_map] at hv
    obtain ⟨v', hv', rfl⟩ := Option.map_eq_some_iff.1 hv
    exact (hst1.tmps.2 i v' u hv' hu).demote _⟩, hst1.defs, hst1.defsN, hst1.cur⟩
  have h0 : ∀ vals, stL ops.toList q vals σ1 (fun j => decide (j < 0)) = σ1 := fun vals => by
    refine st_ext rfl rfl rfl fun t => ?_
    rw [stL_get]
    cases σ1.tmps[t]? with
    | none => rfl
    | some v => cases own ops.toList q t <;> simp
  obtain ⟨vals, _, hv, hk⟩ := evQs_vals hok hql σ1 _ q 0 (fun _ => .bad) (by omega) (by rw [h0]; simpa using h)
  have := draw_quiet (ro := σ.cur.map e.ρ) hok hql (σ := σ1) (vals := vals) (Q := fun x a' w' => ∃ σ' e', Φ x σ' ∧ σ'.cur = σ.cur ∧ RSt G σ' a' w' e' ∧ Ext σ.H w e σ'.H w' e') (w0 := w) (e0 := e)
    (by simp only [σ1, List.map_map]; exact List.map_congr_left fun v _ => demote_demote _ v)
    (fun j o hj ho => hv j o (by omega) hj ho) hk (fun σ' a' w' e' h1 h2 h3 h4 => ⟨σ', e', h1, h2, h3, h4⟩)
    ops.size (Array.replicate ops.size false) a w.drew e (by simp) (fun j _ hj => by
      have hj' : j < ops.size := by simpa using hj
      simp [hj']) (fun i o hi hL => by
      exfalso
      have hi' : i < ops.size := by have := (List.getElem?_eq_some_iff.1 hi).1; simpa using this
      simp [hi'] at hL) (by simp) (by
      have : (fun j => (Array.replicate ops.size false).getD j false) = fun j => decide (j < 0) := by
        funext j
        simp
        by_cases hj : j < ops.size <;> simp [hj]
      rw [this, h0]
      exact hst2) hx1
  simpa using this

end Go.Abs
