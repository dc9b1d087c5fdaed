/- The walk over abstract states. -/
import Derived.Test.YtdpbkooiibaaaaaGreatDoorAbs3
import Derived.Sort.Grow
import Derived.Deep.Draws
import Derived.ProofKit
import Derived.OpenShut
import Derived.ShutString
import Derived.Carry
import Derived.Handed

set_option linter.unusedVariables false
set_option linter.unusedSimpArgs false
/-! DrawG -/
/- Regions that draw their order and in which several operations change blocks, in an order of their own. -/
namespace Go.Abs
open Go.RowKit
set_option linter.unusedVariables false
set_option linter.unusedSimpArgs false

variable {P : Program} {G : Nat → Option (List V)}

theorem PreH.trans {H H1 H2 : Heap} (h : PreH H H1) (h' : PreH H1 H2) : PreH H H2 := by
  obtain ⟨X, hX, rfl⟩ := h
  obtain ⟨Y, hY, rfl⟩ := h'
  refine ⟨X ++ Y, fun k => ?_, by simp⟩
  have h1 := hX k
  have h2 := hY k
  unfold heapCls at *
  rw [List.any_append, h1, h2]; rfl

/-- A load's block is the same. -/
def LoadOk (G : Nat → Option (List V)) (o : Oper) (σ : St) (H : Heap) : Prop :=
  match o.op with
  | .load _ a => match asRp G (σ.ev a) with
    | .ptr i _ => H[i]? = σ.H[i]?
    | .rp _ => True
    | _ => False
  | _ => False

/-- A load's block is there. -/
def LoadAt (G : Nat → Option (List V)) (o : Oper) (σ : St) : Prop :=
  match o.op with
  | .load _ a => match asRp G (σ.ev a) with
    | .ptr i _ => i < σ.H.length
    | .rp _ => True
    | _ => False
  | _ => True

/-- A quiet operation; calls are of functions that look at no block. -/
def evQG (P : Program) (G : Nat → Option (List V)) (fx : Bool) (o : Oper) (σ : St) (K : V → Prop) : Prop :=
  match fx with
  | false => evQ P G o σ K
  | true => match o.op with
    | .call { callee := .value f, args, .. } => match σ.ev f with
      | .fn (.func g) a b => (∃ fn, P.funcs[g]? = some fn ∧ fn.body.isSome ∧ (fn.name == "runtime.NumGoroutine") = false) ∧
          ∃ u, (∀ H, StCall P G g ((a ++ (args.toList.map σ.ev) ++ b).map V.strip) H (fun r H' => H' = H ∧ r = u)) ∧ K u
      | _ => False
    | _ => False

/-- The blocks that it may be carried out at. -/
def AtH (G : Nat → Option (List V)) (fx : Bool) (o : Oper) (σ : St) (H : Heap) : Prop :=
  heapFree o.op = true ∨ PreH σ.H H ∨ LoadOk G o σ H ∨ fx = true

theorem evQG_ex {fx : Bool} {o : Oper} {σ : St} {K : V → Prop} (h : evQG P G fx o σ K) :
    ∃ u, K u ∧ LoadAt G o σ ∧ ∀ σ', AtH G fx o σ σ'.H → (∀ x ∈ o.op.operands, σ'.ev x = σ.ev x) → ∀ ro a w e, RSt G σ' a w e → OpWp P G ro o σ' a w e fun v τ => (τ = σ' ∨ (isVCall o = true ∧ τ = σ'.afterCall σ'.H)) ∧ v = u := by
  cases fx with
  | false =>
    obtain ⟨u, hK, hu⟩ := evQ_ex h
    by_cases hl : ∃ t a, o.op = .load t a
    · obtain ⟨t, a, ho⟩ := hl
      simp only [evQG, evQ, ho] at h
      obtain ⟨_, h⟩ := h
      unfold evOp at h
      simp only [ho, true_and] at h
      obtain ⟨u, hK, hu⟩ := det_load t σ (asRp G (σ.ev a)) K h
      have hat : LoadAt G o σ := by
        have h0 := hu (· = u) rfl
        unfold LoadAt
        rw [ho]
        simp only
        split
        · rename_i i off hv
          rw [hv] at h0
          simp only [evLoad] at h0
          split at h0
          · rename_i hH; exact (List.getElem?_eq_some_iff.1 hH).1
          · exact h0.elim
        · trivial
        · rename_i h1 h2
          revert h0
          cases hv : asRp G (σ.ev a) <;> intro h0
          all_goals first | exact h0.elim | exact absurd hv (h1 _ _) | exact absurd hv (h2 _)
      refine ⟨u, hK, hat, fun σ' ha hops ro act w e hst => evOp_sound hst ?_⟩
      unfold evOp
      simp only [ho]
      have ha1 : σ'.ev a = σ.ev a := hops a (by simp [ho, Op.operands])
      rw [ha1]
      have key : evLoad P t σ' (· = u) (asRp G (σ.ev a)) := by
        have h0 := hu (· = u) rfl
        rcases ha with ha | ha | ha | ha
        · rw [ho] at ha; cases ha
        · exact evLoad_pre ha h0
        · unfold LoadOk at ha
          rw [ho] at ha
          simp only at ha
          split at ha
          · rename_i i off hv
            rw [hv] at h0 ⊢
            simp only [evLoad] at h0 ⊢
            rw [ha]
            exact h0
          · rename_i cs hv
            rw [hv] at h0 ⊢
            exact h0
          · exact ha.elim
        · cases ha
      have mono : ∀ (x : V) (K K' : V → Prop), (∀ v, K v → K' v) → evLoad P t σ' K x → evLoad P t σ' K' x := by
        intro x K K' hm hx
        obtain ⟨u', h1, h2⟩ := det_load t σ' x K hx
        exact h2 K' (hm _ h1)
      exact mono _ _ _ (fun v hv => by simp [hv]) key
    · refine ⟨u, hK, ?_, fun σ' ha hops ro act w e hst => hu σ' ⟨?_, hops⟩ ro act w e hst⟩
      · unfold LoadAt
        split
        · rename_i t a ho; exact absurd ⟨t, a, ho⟩ hl
        · trivial
      rcases ha with ha | ha | ha | ha
      · exact .inl ha
      · exact .inr ha
      · exfalso
        unfold LoadOk at ha
        split at ha
        · rename_i t a ho; exact hl ⟨t, a, ho⟩
        · exact ha
      · cases ha
  | true =>
    simp only [evQG] at h
    split at h
    · rename_i f args ts ho
      split at h
      · rename_i g a b hf
        obtain ⟨hfn, u, hcall, hK⟩ := h
        refine ⟨u, hK, by unfold LoadAt; rw [ho]; trivial, fun σ' ha hops ro act w e hst => evOp_sound hst ?_⟩
        have hev : σ'.ev f = .fn (.func g) a b := by rw [hops f (by simp [ho, Op.operands, Call.operands]), hf]
        have hargs : args.toList.map σ'.ev = args.toList.map σ.ev := List.map_congr_left fun x hx => hops x (by simp [ho, Op.operands, Call.operands, Array.mem_toList_iff.1 hx])
        simp only [evOp, ho, hev]
        refine ⟨hfn, ?_⟩
        rw [hargs]
        exact (hcall σ'.H).mono fun r H' ⟨h1, h2⟩ => ⟨.inr ⟨by unfold isVCall; rw [ho], by rw [h1]⟩, h2⟩
      · exact h.elim
    · exact h.elim

/-- An operation that changes a block, or lays one: its value, the blocks behind it, which block. -/
def evEffN (P : Program) (G : Nat → Option (List V)) (o : Oper) (σ : St) (K : V → Heap → Nat → Prop) : Prop :=
  match o.op with
  | .store t a x => match σ.ev a with
    | .ptr id off => evStore P t σ (σ.ev x) (fun τ => K (.tup []) τ.H id) (.ptr id off)
    | _ => False
  | .alloc t => match zeroOf P t with
    | some cs => (cs.all fun v => !v.isCls) = true ∧ K (.ptr σ.H.length 0) (σ.H ++ [some (.cells t cs)]) σ.H.length
    | none => False
  | .box t x => match (σ.ev x).cellsF with
    | some cs => (cs.all fun v => !v.isCls) = true ∧ K (.ptr σ.H.length 0) (σ.H ++ [some (.cells t cs)]) σ.H.length
    | none => False
  | .makeSlice t n c => match slOf P t, σ.ev n, σ.ev c with
    | some (e, s, bytes), .im (.int _ a), .im (.int _ b) => match zeroOf P e with
      | some z => (z.all fun v => !v.isCls) = true ∧ (z.length = s ∧ 1 ≤ s) ∧ (b = a ∧ 0 ≤ a ∧ a ≤ maxBytes ∧ bytes * a ≤ maxBytes) ∧ K (.arr σ.H.length s a.toNat) (σ.H ++ [some (.cells e (List.replicate a.toNat z).flatten)]) σ.H.length
      | none => False
    | _, _, _ => False
  | .call { callee := .value f, args, .. } => match σ.ev f with
    | .fn (.func g) a b => (∃ fn, P.funcs[g]? = some fn ∧ fn.body.isSome ∧ (fn.name == "runtime.NumGoroutine") = false) ∧
        ∃ v H', StCall P G g ((a ++ (args.toList.map σ.ev) ++ b).map V.strip) σ.H (fun r H'' => H'' = H' ∧ r = v) ∧ K v H' 4294967295
    | _ => False
  | _ => False

/-- A call that changes one block, or lays one. -/
def evEffC (P : Program) (G : Nat → Option (List V)) (o : Oper) (σ : St) (K : V → Heap → Nat → Prop) : Prop :=
  match o.op with
  | .call { callee := .value f, args, .. } => match σ.ev f with
    | .fn (.func g) a b => (∃ fn, P.funcs[g]? = some fn ∧ fn.body.isSome ∧ (fn.name == "runtime.NumGoroutine") = false) ∧
        ∃ v H' id, StCall P G g ((a ++ (args.toList.map σ.ev) ++ b).map V.strip) σ.H (fun r H'' => H'' = H' ∧ r = v) ∧ (∀ i, i ≠ id → H'[i]? = σ.H[i]?) ∧ σ.H.length ≤ H'.length ∧ K v H' id
    | _ => False
  | _ => False

def evEff (P : Program) (G : Nat → Option (List V)) (fx : Bool) (o : Oper) (σ : St) (K : V → Heap → Nat → Prop) : Prop :=
  match fx with
  | true => evEffC P G o σ K
  | false => evEffN P G o σ K

def isCall : Op → Bool
  | .call _ => true
  | _ => false
/-- Does it lay a new block and change none? -/
def isLay : Op → Bool
  | .alloc _ | .box .. | .makeSlice .. => true
  | _ => false

/-- A call of which only is known what the blocks are afterwards. -/
def noId : Nat := 4294967295

/-- How the blocks have changed. -/
structure StepH (o : Op) (id : Nat) (H H' : Heap) : Prop where
  off : (isCall o = false ∨ id ≠ noId) → ∀ i, i ≠ id → H'[i]? = H[i]?
  len : (isCall o = false ∨ id ≠ noId) → H.length ≤ H'.length
  pre : isLay o = true → PreH H H'
  new : isLay o = true → id = H.length

theorem evStore_ptr {t : TypeId} {σ : St} {x : V} {k : St → Prop} {id off : Nat} (h : evStore P t σ x k (.ptr id off)) :
    ∃ b, k { σ with H := σ.H.set id b } ∧ ∀ (σ' : St) (k' : St → Prop), σ'.H = σ.H → k' { σ' with H := σ.H.set id b } → evStore P t σ' x k' (.ptr id off) := by
  simp only [evStore] at h
  split at h
  · rename_i e vs hH
    split at h
    · rename_i cs n hc ht
      obtain ⟨h1, h2, h3, h4⟩ := h
      refine ⟨_, h4, fun σ' k' hH' hk => ?_⟩
      simp only [evStore, hH', hH, hc, ht]
      exact ⟨h1, h2, h3, hk⟩
    · exact h.elim
  · exact h.elim

theorem pre_lay {H : Heap} {t : TypeId} {cs : List V} (h : (cs.all fun v => !v.isCls) = true) : PreH H (H ++ [some (.cells t cs)]) :=
  ⟨[some (.cells t cs)], fun k => by
    show ((cs.any (V.hasCls k)) || false) = false
    rw [noCls_any h k]; rfl, rfl⟩

theorem lay_off {H : Heap} {b : Option Blk} {i : Nat} (h : i ≠ H.length) : (H ++ [b])[i]? = H[i]? := by
  by_cases hl : i < H.length
  · rw [List.getElem?_append_left hl]
  · rw [List.getElem?_append_right (by omega), List.getElem?_eq_none (by omega : H.length ≤ i), List.getElem?_eq_none]
    simp; omega

theorem all_flat {z : List V} (h : (z.all fun v => !v.isCls) = true) (n : Nat) : ((List.replicate n z).flatten.all fun v => !v.isCls) = true := by
  rw [List.all_eq_true] at h ⊢
  intro x hx
  obtain ⟨l, hl, hx⟩ := List.mem_flatten.1 hx
  rw [List.eq_of_mem_replicate hl] at hx
  exact h x hx

theorem evEffN_ex {o : Oper} {σ : St} {K : V → Heap → Nat → Prop} (h : evEffN P G o σ K) :
    ∃ v H' id, K v H' id ∧ StepH o.op id σ.H H' ∧ ∀ σ', σ'.H = σ.H → (∀ x ∈ o.op.operands, σ'.ev x = σ.ev x) → ∀ ro a w e, RSt G σ' a w e →
      OpWp P G ro o σ' a w e fun v' τ => (τ = { σ' with H := H' } ∨ (isVCall o = true ∧ τ = σ'.afterCall H')) ∧ v' = v := by
  unfold evEffN at h
  split at h
  · rename_i t a x ho
    split at h
    · rename_i id off hv
      obtain ⟨b, hk, hall⟩ := evStore_ptr h
      refine ⟨_, _, _, hk, ⟨fun _ i hi => ?_, fun _ => by simp, (fun hl => by rw [ho] at hl; cases hl), (fun hl => by rw [ho] at hl; cases hl)⟩, fun σ' hH hops ro act w e hst => evOp_sound hst ?_⟩
      · show (σ.H.set id b)[i]? = _
        rw [List.getElem?_set_ne (fun h => hi h.symm)]
      · simp only [evOp, ho]
        rw [hops a (by simp [ho, Op.operands]), hv, hops x (by simp [ho, Op.operands])]
        exact hall σ' _ hH (by simp)
    · exact h.elim
  · rename_i t ho
    split at h
    · rename_i cs hz
      obtain ⟨hc, h⟩ := h
      refine ⟨_, _, _, h, ⟨fun _ i hi => lay_off hi, fun _ => by simp, fun _ => pre_lay hc, fun _ => rfl⟩, fun σ' hH hops ro act w e hst => evOp_sound hst ?_⟩
      simp only [evOp, ho, hz]
      rw [hH]
      exact ⟨.inl rfl, rfl⟩
    · exact h.elim
  · rename_i t x ho
    split at h
    · rename_i cs hz
      obtain ⟨hc, h⟩ := h
      refine ⟨_, _, _, h, ⟨fun _ i hi => lay_off hi, fun _ => by simp, fun _ => pre_lay hc, fun _ => rfl⟩, fun σ' hH hops ro act w e hst => evOp_sound hst ?_⟩
      simp only [evOp, ho]
      rw [hops x (by simp [ho, Op.operands]), hz]
      simp only
      rw [hH]
      exact ⟨.inl rfl, rfl⟩
    · exact h.elim
  · rename_i t n c ho
    split at h
    · rename_i el sz bytes k1 a k2 b hsl hn hc
      split at h
      · rename_i z hz
        obtain ⟨hcl, hzs, hcond, hK⟩ := h
        refine ⟨_, _, _, hK, ⟨fun _ i hi => lay_off hi, fun _ => by simp, fun _ => pre_lay (all_flat hcl _), fun _ => rfl⟩, fun σ' hH hops ro act w e hst => evOp_sound hst ?_⟩
        simp only [evOp, ho]
        rw [hops n (by simp [ho, Op.operands]), hops c (by simp [ho, Op.operands]), hn, hc]
        unfold evMake
        rw [hsl]
        simp only
        rw [hz]
        simp only
        rw [hH]
        exact ⟨hzs.1, hzs.2, hcond, .inl rfl, rfl⟩
      · exact h.elim
    · exact h.elim
  · rename_i f args ts ho
    split at h
    · rename_i g a b hf
      obtain ⟨hfn, v, H', hcall, hK⟩ := h
      refine ⟨v, H', 4294967295, hK, ⟨(fun hl => by rcases hl with hl | hl; · { rw [ho] at hl; cases hl }; · exact absurd rfl hl), (fun hl => by rcases hl with hl | hl; · { rw [ho] at hl; cases hl }; · exact absurd rfl hl), (fun hl => by rw [ho] at hl; cases hl), (fun hl => by rw [ho] at hl; cases hl)⟩, fun σ' hH hops ro act w e hst => evOp_sound hst ?_⟩
      have hev : σ'.ev f = .fn (.func g) a b := by rw [hops f (by simp [ho, Op.operands, Call.operands]), hf]
      have hargs : args.toList.map σ'.ev = args.toList.map σ.ev := List.map_congr_left fun x hx => hops x (by simp [ho, Op.operands, Call.operands, Array.mem_toList_iff.1 hx])
      simp only [evOp, ho, hev]
      refine ⟨hfn, ?_⟩
      rw [hargs, hH]
      exact hcall.mono fun r H'' ⟨h1, h2⟩ => ⟨.inr ⟨by unfold isVCall; rw [ho], by rw [h1]⟩, h2⟩
    · exact h.elim
  · exact h.elim


theorem evEffC_ex {o : Oper} {σ : St} {K : V → Heap → Nat → Prop} (h : evEffC P G o σ K) :
    ∃ v H' id, K v H' id ∧ StepH o.op id σ.H H' ∧ ∀ σ', σ'.H = σ.H → (∀ x ∈ o.op.operands, σ'.ev x = σ.ev x) → ∀ ro a w e, RSt G σ' a w e →
      OpWp P G ro o σ' a w e fun v' τ => (τ = { σ' with H := H' } ∨ (isVCall o = true ∧ τ = σ'.afterCall H')) ∧ v' = v := by
  unfold evEffC at h
  split at h
  · rename_i f args ts ho
    split at h
    · rename_i g a b hf
      obtain ⟨hfn, v, H', id, hcall, hoff, hlen, hK⟩ := h
      refine ⟨v, H', id, hK, ⟨fun _ => hoff, fun _ => hlen, (fun hl => by rw [ho] at hl; cases hl), (fun hl => by rw [ho] at hl; cases hl)⟩, fun σ' hH hops ro act w e hst => evOp_sound hst ?_⟩
      have hev : σ'.ev f = .fn (.func g) a b := by rw [hops f (by simp [ho, Op.operands, Call.operands]), hf]
      have hargs : args.toList.map σ'.ev = args.toList.map σ.ev := List.map_congr_left fun x hx => hops x (by simp [ho, Op.operands, Call.operands, Array.mem_toList_iff.1 hx])
      simp only [evOp, ho, hev]
      refine ⟨hfn, ?_⟩
      rw [hargs, hH]
      exact hcall.mono fun r H'' ⟨h1, h2⟩ => ⟨.inr ⟨by unfold isVCall; rw [ho], by rw [h1]⟩, h2⟩
    · exact h.elim
  · exact h.elim

theorem evEff_ex {fx : Bool} {o : Oper} {σ : St} {K : V → Heap → Nat → Prop} (h : evEff P G fx o σ K) :
    ∃ v H' id, K v H' id ∧ StepH o.op id σ.H H' ∧ ∀ σ', σ'.H = σ.H → (∀ x ∈ o.op.operands, σ'.ev x = σ.ev x) → ∀ ro a w e, RSt G σ' a w e →
      OpWp P G ro o σ' a w e fun v' τ => (τ = { σ' with H := H' } ∨ (isVCall o = true ∧ τ = σ'.afterCall H')) ∧ v' = v := by
  cases fx with
  | true => exact evEffC_ex h
  | false => exact evEffN_ex h

/-- The block that a load looks at. -/
def addrOf (G : Nat → Option (List V)) (o : Oper) (σ : St) : Option Nat :=
  match o.op with
  | .load _ a => match asRp G (σ.ev a) with
    | .ptr i _ => some i
    | _ => none
  | _ => none

def memN (i : Nat) (l : List Nat) : Bool := l.any (Nat.beq i)

/-- The walk in the order of the text. -/
def evG (P : Program) (G : Nat → Option (List V)) (all : List Oper) (eff fx : List Nat) : List Oper → Nat → St → List (Nat × Nat) → List (Nat × Option Nat) → (St → List (Nat × Nat) → List (Nat × Option Nat) → Prop) → Prop
  | [], _, σ, TL, AL, k => k σ TL AL
  | o :: rest, i, σ, TL, AL, k =>
    match memN i eff with
    | true => o.guard = none ∧ evEff P G (memN i fx) o σ fun v H' id => dq all H' = dq all σ.H ∧ evG P G all eff fx rest (i + 1) (({ σ with H := H' } : St).put o.dst (V.demote (dq all σ.H) v)) ((i, id) :: TL) AL k
    | false => match o.guard with
      | none => evQG P G (memN i fx) o σ fun v => evG P G all eff fx rest (i + 1) (σ.put o.dst (V.demote (dq all σ.H) v)) TL ((i, addrOf G o σ) :: AL) k
      | some (j, want) => match yieldedV all σ j with
        | some (.im (.bool b)) => (b = want → evQG P G (memN i fx) o σ fun v => evG P G all eff fx rest (i + 1) (σ.put o.dst (V.demote (dq all σ.H) v)) TL ((i, addrOf G o σ) :: AL) k) ∧
            (b ≠ want → evG P G all eff fx rest (i + 1) (σ.put o.dst (.tup [])) TL AL k)
        | some (.tup []) => evG P G all eff fx rest (i + 1) (σ.put o.dst (.tup [])) TL AL k
        | _ => False

/-- How many of them lie ahead. -/
def rankG (eff : List Nat) (i : Nat) : Nat := (List.range i).countP fun j => memN j eff
theorem rankG_succ (eff : List Nat) (i : Nat) : rankG eff (i + 1) = rankG eff i + if memN i eff then 1 else 0 := by
  unfold rankG
  rw [List.range_succ, List.countP_append]
  simp [List.countP_cons]

def TSG (ops : List Oper) (eff : List Nat) (vals : Nat → V) (Hs : Nat → Heap) (σ : St) (j : Nat) : St := stL ops ops.length vals { σ with H := Hs (rankG eff j) } fun l => decide (l < j)

/-- What is known of an operation. -/
def KnowG (P : Program) (G : Nat → Option (List V)) (ops : List Oper) (eff fx : List Nat) (vals : Nat → V) (Hs : Nat → Heap) (T : Nat → Nat) (A : Nat → Option (Option Nat)) (σ : St) (j : Nat) (o : Oper) : Prop :=
  match memN j eff with
  | true => o.guard = none ∧ V.demote (dq ops (Hs (rankG eff j))) (vals j) = vals j ∧ dq ops (Hs (rankG eff j + 1)) = dq ops (Hs (rankG eff j)) ∧ StepH o.op (T j) (Hs (rankG eff j)) (Hs (rankG eff j + 1)) ∧
      ∀ σ', σ'.H = Hs (rankG eff j) → (∀ x ∈ o.op.operands, σ'.ev x = (TSG ops eff vals Hs σ j).ev x) → ∀ ro a w e, RSt G σ' a w e →
        OpWp P G ro o σ' a w e fun v' τ => (τ = { σ' with H := Hs (rankG eff j + 1) } ∨ (isVCall o = true ∧ τ = σ'.afterCall (Hs (rankG eff j + 1)))) ∧ vals j = V.demote (dq ops (Hs (rankG eff j))) v'
  | false => V.demote (dq ops (Hs (rankG eff j))) (vals j) = vals j ∧
      ((Want ops o (TSG ops eff vals Hs σ j) true ∧ A j = some (addrOf G o (TSG ops eff vals Hs σ j)) ∧ LoadAt G o (TSG ops eff vals Hs σ j) ∧ ∃ v, vals j = V.demote (dq ops (Hs (rankG eff j))) v ∧
        ∀ σ', AtH G (memN j fx) o (TSG ops eff vals Hs σ j) σ'.H → (∀ x ∈ o.op.operands, σ'.ev x = (TSG ops eff vals Hs σ j).ev x) → ∀ ro a w e, RSt G σ' a w e →
          OpWp P G ro o σ' a w e fun v' τ => (τ = σ' ∨ (isVCall o = true ∧ τ = σ'.afterCall σ'.H)) ∧ v' = v) ∨
      (Want ops o (TSG ops eff vals Hs σ j) false ∧ vals j = .tup []))

theorem tsg_congr {ops : List Oper} {eff : List Nat} {vals vals' : Nat → V} {Hs Hs' : Nat → Heap} {σ : St} {j : Nat} (hv : ∀ l, l < j → vals' l = vals l) (hH : Hs' (rankG eff j) = Hs (rankG eff j)) :
    TSG ops eff vals' Hs' σ j = TSG ops eff vals Hs σ j := by
  unfold TSG
  rw [hH]
  exact stL_congr fun l hl => hv l (by simpa using hl)

theorem knowG_congr {ops : List Oper} {eff fx : List Nat} {vals vals' : Nat → V} {Hs Hs' : Nat → Heap} {T T' : Nat → Nat} {A A' : Nat → Option (Option Nat)} {σ : St} {j : Nat} {o : Oper}
    (hv : ∀ l, l ≤ j → vals' l = vals l) (hH : Hs' (rankG eff j) = Hs (rankG eff j)) (hH1 : memN j eff = true → Hs' (rankG eff j + 1) = Hs (rankG eff j + 1)) (hT : T' j = T j) (hA : A' j = A j)
    (h : KnowG P G ops eff fx vals Hs T A σ j o) : KnowG P G ops eff fx vals' Hs' T' A' σ j o := by
  have ht := tsg_congr (ops := ops) (σ := σ) (fun l hl => hv l (by omega)) hH
  unfold KnowG at *
  rw [ht, hv j (Nat.le_refl _), hH, hT, hA]
  split at h
  · rename_i he
    rw [hH1 he]
    exact h
  · exact h

theorem evG_vals {ops : List Oper} (hok : DrawOk ops ops.length) {eff fx : List Nat} (σ : St) (k : St → List (Nat × Nat) → List (Nat × Option Nat) → Prop) :
    ∀ (m i : Nat) (vals : Nat → V) (Hs : Nat → Heap) (TL : List (Nat × Nat)) (AL : List (Nat × Option Nat)), i + m = ops.length → evG P G ops eff fx (ops.drop i) i (TSG ops eff vals Hs σ i) TL AL k →
    ∃ (vals' : Nat → V) (Hs' : Nat → Heap) (TL' : List (Nat × Nat)) (AL' : List (Nat × Option Nat)), (∀ j, j < i → vals' j = vals j) ∧ (∀ n, n ≤ rankG eff i → Hs' n = Hs n) ∧
      (∀ j, j < i → TL'.lookup j = TL.lookup j ∧ AL'.lookup j = AL.lookup j) ∧
      (∀ j o, i ≤ j → ops[j]? = some o → KnowG P G ops eff fx vals' Hs' (fun j => (TL'.lookup j).getD 0) (fun j => AL'.lookup j) σ j o ∧ (memN j eff = true → (TL'.lookup j).isSome)) ∧ k (TSG ops eff vals' Hs' σ ops.length) TL' AL' := by
  intro m
  induction m with
  | zero =>
    intro i vals Hs TL AL hm h
    obtain rfl : i = ops.length := by omega
    rw [List.drop_length] at h
    exact ⟨vals, Hs, TL, AL, fun _ _ => rfl, fun _ _ => rfl, fun _ _ => ⟨rfl, rfl⟩, fun j o h1 h2 => by have := (List.getElem?_eq_some_iff.1 h2).1; omega, h⟩
  | succ m ih =>
    intro i vals Hs TL AL hm h
    have hi : i < ops.length := by omega
    have ho : ops[i]? = some ops[i] := List.getElem?_eq_getElem hi
    rw [List.drop_eq_getElem_cons hi] at h
    -- one step: a value, blocks, what is noted
    have step : ∀ (u : V) (Hs1 : Nat → Heap) (TL1 : List (Nat × Nat)) (AL1 : List (Nat × Option Nat)), (∀ n, n ≤ rankG eff i → Hs1 n = Hs n) → (∀ j, j ≠ i → TL1.lookup j = TL.lookup j ∧ AL1.lookup j = AL.lookup j) →
        KnowG P G ops eff fx (fun j => if j = i then u else vals j) Hs1 (fun j => (TL1.lookup j).getD 0) (fun j => AL1.lookup j) σ i ops[i] → (memN i eff = true → (TL1.lookup i).isSome) →
        evG P G ops eff fx (ops.drop (i + 1)) (i + 1) (TSG ops eff (fun j => if j = i then u else vals j) Hs1 σ (i + 1)) TL1 AL1 k →
        ∃ (vals' : Nat → V) (Hs' : Nat → Heap) (TL' : List (Nat × Nat)) (AL' : List (Nat × Option Nat)), (∀ j, j < i → vals' j = vals j) ∧ (∀ n, n ≤ rankG eff i → Hs' n = Hs n) ∧
          (∀ j, j < i → TL'.lookup j = TL.lookup j ∧ AL'.lookup j = AL.lookup j) ∧
          (∀ j o, i ≤ j → ops[j]? = some o → KnowG P G ops eff fx vals' Hs' (fun j => (TL'.lookup j).getD 0) (fun j => AL'.lookup j) σ j o ∧ (memN j eff = true → (TL'.lookup j).isSome)) ∧ k (TSG ops eff vals' Hs' σ ops.length) TL' AL' := by
      intro u Hs1 TL1 AL1 hHs hTL hK hTs hrest
      obtain ⟨vals', Hs', TL', AL', h1, h2, h3, h4, h5⟩ := ih (i + 1) _ Hs1 TL1 AL1 (by omega) hrest
      have hr := rankG_succ eff i
      refine ⟨vals', Hs', TL', AL', fun j hj => ?_, fun n hn => ?_, fun j hj => ?_, fun j o hj hjo => ?_, h5⟩
      · have := h1 j (by omega)
        simp only [show j ≠ i by omega, if_false] at this
        exact this
      · rw [h2 n (by omega)]; exact hHs n hn
      · have := h3 j (by omega)
        exact ⟨this.1.trans (hTL j (by omega)).1, this.2.trans (hTL j (by omega)).2⟩
      · by_cases hji : j = i
        · subst hji
          rw [ho] at hjo
          cases hjo
          have h33 := h3 j (by omega)
          refine ⟨knowG_congr (fun l hl => ?_) (h2 _ (by omega)) (fun he => h2 _ (by rw [hr, if_pos he]; exact Nat.le_refl _)) (by simp only [h33.1]) h33.2 hK, fun he => by rw [h33.1]; exact hTs he⟩
          exact h1 l (by omega)
        · exact h4 j o (by omega) hjo
    have hts : ∀ u, TSG ops eff (fun j => if j = i then u else vals j) Hs σ i = TSG ops eff vals Hs σ i := fun u => tsg_congr (fun l hl => by simp [show l ≠ i by omega]) rfl
    have hput : ∀ (u : V) (Hs1 : Nat → Heap), (({ TSG ops eff vals Hs σ i with H := Hs1 (rankG eff (i + 1)) } : St)).put ops[i].dst u = TSG ops eff (fun j => if j = i then u else vals j) Hs1 σ (i + 1) := by
      intro u Hs1
      have e1 : ({ TSG ops eff vals Hs σ i with H := Hs1 (rankG eff (i + 1)) } : St) = stL ops ops.length (fun j => if j = i then u else vals j) { σ with H := Hs1 (rankG eff (i + 1)) } fun l => decide (l < i) := by
        rw [← hts u]
        rfl
      have e3 := stL_put hok (fun j => if j = i then u else vals j) ({ σ with H := Hs1 (rankG eff (i + 1)) } : St) (fun l => decide (l < i)) hi ho
      simp only [if_true] at e3
      rw [e1, e3]
      unfold TSG
      congr 1
      funext j
      by_cases hj : j = i
      · simp [hj]
      · simp only [hj, decide_false, Bool.or_false, decide_eq_decide]
        omega
    have hrs := rankG_succ eff i
    simp only [evG] at h
    split at h
    · rename_i he
      obtain ⟨hg, h⟩ := h
      obtain ⟨v, H', id, ⟨hdq, hrest⟩, hstep, hop⟩ := evEff_ex h
      rw [if_pos he] at hrs
      have hHs1 : ∀ n, n ≤ rankG eff i → (fun n => if n = rankG eff i + 1 then H' else Hs n) n = Hs n := fun n hn => by simp [show n ≠ rankG eff i + 1 by omega]
      have hlast : (fun n => if n = rankG eff i + 1 then H' else Hs n) (rankG eff (i + 1)) = H' := by simp [hrs]
      have hH0 : (TSG ops eff vals Hs σ i).H = Hs (rankG eff i) := rfl
      rw [hH0] at hrest hdq
      refine step (V.demote (dq ops (Hs (rankG eff i))) v) (fun n => if n = rankG eff i + 1 then H' else Hs n) ((i, id) :: TL) AL hHs1 (fun j hj => ⟨?_, rfl⟩) ?_ (fun _ => by simp [List.lookup]) ?_
      · have : (j == i) = false := by simpa using hj
        simp [List.lookup, this]
      · unfold KnowG
        rw [he]
        have e1 : (fun n => if n = rankG eff i + 1 then H' else Hs n) (rankG eff i) = Hs (rankG eff i) := hHs1 _ (Nat.le_refl _)
        have e2 : (fun n => if n = rankG eff i + 1 then H' else Hs n) (rankG eff i + 1) = H' := by simp
        have e3 : TSG ops eff (fun j => if j = i then V.demote (dq ops (Hs (rankG eff i))) v else vals j) (fun n => if n = rankG eff i + 1 then H' else Hs n) σ i = TSG ops eff vals Hs σ i := tsg_congr (fun l hl => by simp [show l ≠ i by omega]) e1
        rw [e3, e1, e2]
        simp only [if_true]
        refine ⟨hg, demote_demote _ _, hdq, by rw [hH0] at hstep; simpa [List.lookup] using hstep, fun σ' hH hops ro a w e hst => (hop σ' hH hops ro a w e hst).mono fun v' τ ⟨h1, h2⟩ => ⟨h1, by rw [h2]⟩⟩
      · have e4 := hput (V.demote (dq ops (Hs (rankG eff i))) v) (fun n => if n = rankG eff i + 1 then H' else Hs n)
        rw [← e4]
        have e5 : (if rankG eff (i + 1) = rankG eff i + 1 then H' else Hs (rankG eff (i + 1))) = H' := if_pos hrs
        show evG P G ops eff fx (ops.drop (i + 1)) (i + 1) ((({ TSG ops eff vals Hs σ i with H := (if rankG eff (i + 1) = rankG eff i + 1 then H' else Hs (rankG eff (i + 1))) } : St)).put ops[i].dst (V.demote (dq ops (Hs (rankG eff i))) v)) ((i, id) :: TL) AL k
        rw [e5]
        exact hrest
    · rename_i he
      rw [if_neg (by rw [he]; simp), Nat.add_zero] at hrs
      have hlast : Hs (rankG eff (i + 1)) = Hs (rankG eff i) := by rw [hrs]; rfl
      have hself : ∀ u, (TSG ops eff vals Hs σ i).put ops[i].dst u = TSG ops eff (fun j => if j = i then u else vals j) Hs σ (i + 1) := fun u => by
        rw [← hput u Hs, hlast]
        rfl
      have hlk : ∀ (x : Option Nat) j, j ≠ i → List.lookup j ((i, x) :: AL) = AL.lookup j := fun x j hj => by
        have : (j == i) = false := by simpa using hj
        simp [List.lookup, this]
      have run : Want ops ops[i] (TSG ops eff vals Hs σ i) true → evQG P G (memN i fx) ops[i] (TSG ops eff vals Hs σ i) (fun v => evG P G ops eff fx (ops.drop (i + 1)) (i + 1) ((TSG ops eff vals Hs σ i).put ops[i].dst (V.demote (dq ops (TSG ops eff vals Hs σ i).H) v)) TL ((i, addrOf G ops[i] (TSG ops eff vals Hs σ i)) :: AL) k) →
          ∃ (vals' : Nat → V) (Hs' : Nat → Heap) (TL' : List (Nat × Nat)) (AL' : List (Nat × Option Nat)), (∀ j, j < i → vals' j = vals j) ∧ (∀ n, n ≤ rankG eff i → Hs' n = Hs n) ∧
            (∀ j, j < i → TL'.lookup j = TL.lookup j ∧ AL'.lookup j = AL.lookup j) ∧
            (∀ j o, i ≤ j → ops[j]? = some o → KnowG P G ops eff fx vals' Hs' (fun j => (TL'.lookup j).getD 0) (fun j => AL'.lookup j) σ j o ∧ (memN j eff = true → (TL'.lookup j).isSome)) ∧ k (TSG ops eff vals' Hs' σ ops.length) TL' AL' := by
        intro hw h
        obtain ⟨v, hrest, hat, hop⟩ := evQG_ex h
        have hH0 : (TSG ops eff vals Hs σ i).H = Hs (rankG eff i) := rfl
        rw [hself, hH0] at hrest
        refine step (V.demote (dq ops (Hs (rankG eff i))) v) Hs TL _ (fun _ _ => rfl) (fun j hj => ⟨rfl, hlk _ j hj⟩) ?_ (fun h => by rw [he] at h; cases h) hrest
        unfold KnowG
        rw [he, hts]
        simp only [if_true]
        exact ⟨demote_demote _ _, .inl ⟨hw, by simp [List.lookup], hat, v, rfl, hop⟩⟩
      have skip : Want ops ops[i] (TSG ops eff vals Hs σ i) false → evG P G ops eff fx (ops.drop (i + 1)) (i + 1) ((TSG ops eff vals Hs σ i).put ops[i].dst (.tup [])) TL AL k →
          ∃ (vals' : Nat → V) (Hs' : Nat → Heap) (TL' : List (Nat × Nat)) (AL' : List (Nat × Option Nat)), (∀ j, j < i → vals' j = vals j) ∧ (∀ n, n ≤ rankG eff i → Hs' n = Hs n) ∧
            (∀ j, j < i → TL'.lookup j = TL.lookup j ∧ AL'.lookup j = AL.lookup j) ∧
            (∀ j o, i ≤ j → ops[j]? = some o → KnowG P G ops eff fx vals' Hs' (fun j => (TL'.lookup j).getD 0) (fun j => AL'.lookup j) σ j o ∧ (memN j eff = true → (TL'.lookup j).isSome)) ∧ k (TSG ops eff vals' Hs' σ ops.length) TL' AL' := by
        intro hw h
        rw [hself] at h
        refine step (.tup []) Hs TL AL (fun _ _ => rfl) (fun j hj => ⟨rfl, rfl⟩) ?_ (fun h => by rw [he] at h; cases h) h
        unfold KnowG
        rw [he, hts]
        simp only [if_true]
        exact ⟨rfl, .inr ⟨hw, by simp⟩⟩
      split at h
      · rename_i hg
        exact run (by unfold Want; rw [hg]) h
      · rename_i j want hg
        split at h
        · rename_i b hv
          by_cases hb : b = want
          · exact run (by unfold Want; rw [hg]; exact .inl ⟨b, hv, by simp [hb]⟩) (h.1 hb)
          · exact skip (by unfold Want; rw [hg]; exact .inl ⟨b, hv, by simp [hb]⟩) (h.2 hb)
        · rename_i hv
          exact skip (by unfold Want; rw [hg]; exact .inr ⟨hv, rfl⟩) h
        · exact h.elim


/-! ### every order -/
def isLoad : Op → Bool
  | .load .. => true
  | _ => false

def okG (ops : List Oper) (eff fx : List Nat) (pr : List (Nat × Nat)) : Bool :=
  let ms := masksG (ops.map Bnd) []
  (eff.all fun c => Nat.blt c ops.length && eff.all fun c' => !Nat.blt c c' || (ms.getD c' 0).testBit c) &&
  (List.range ops.length).all fun j => memN j eff || match ops[j]? with
    | none => true
    | some o => heapFree o.op || memN j fx || eff.all fun c =>
        (if j < c then (ms.getD c 0).testBit j else (ms.getD j 0).testBit c) ||
        (match ops[c]? with
          | some oc => (Nat.blt j c && isLay oc.op) || (isLoad o.op && pr.any fun x => Nat.beq x.1 j && Nat.beq x.2 c)
          | none => false)

structure OkG (ops : List Oper) (eff fx : List Nat) (pr : List (Nat × Nat)) : Prop where
  lt : ∀ c, memN c eff = true → c < ops.length
  tot : ∀ c c', memN c eff = true → memN c' eff = true → c < c' → ((masksG (ops.map Bnd) []).getD c' 0).testBit c = true
  oth : ∀ j o, memN j eff = false → ops[j]? = some o → heapFree o.op = true ∨ memN j fx = true ∨ ∀ c, memN c eff = true →
    (j < c ∧ ((masksG (ops.map Bnd) []).getD c 0).testBit j = true) ∨ (c < j ∧ ((masksG (ops.map Bnd) []).getD j 0).testBit c = true) ∨
    ∃ oc, ops[c]? = some oc ∧ ((j < c ∧ isLay oc.op = true) ∨ (isLoad o.op = true ∧ (j, c) ∈ pr))

theorem memN_iff {i : Nat} {l : List Nat} : memN i l = true ↔ i ∈ l := by
  unfold memN
  rw [List.any_eq_true]
  exact ⟨fun ⟨x, hx, h⟩ => Nat.eq_of_beq_eq_true h ▸ hx, fun h => ⟨i, h, Nat.beq_refl i⟩⟩

theorem okG_spec {ops : List Oper} {eff fx : List Nat} {pr : List (Nat × Nat)} (h : okG ops eff fx pr = true) : OkG ops eff fx pr := by
  unfold okG at h
  simp only [Bool.and_eq_true, List.all_eq_true] at h
  obtain ⟨h1, h2⟩ := h
  refine ⟨fun c hc => Nat.blt_eq.mp (h1 c (memN_iff.1 hc)).1, fun c c' hc hc' hlt => ?_, fun j o hj ho => ?_⟩
  · have := (h1 c (memN_iff.1 hc)).2 c' (memN_iff.1 hc')
    rw [Bool.or_eq_true] at this
    rcases this with h3 | h3
    · have : Nat.blt c c' = true := Nat.blt_eq.mpr hlt
      rw [this] at h3; cases h3
    · exact h3
  · have hjl : j < ops.length := (List.getElem?_eq_some_iff.1 ho).1
    have := h2 j (List.mem_range.2 hjl)
    rw [hj, ho] at this
    simp only [Bool.false_or, Bool.or_eq_true] at this
    rcases this with (h3 | h3) | h3
    · exact .inl h3
    · exact .inr (.inl h3)
    · refine .inr (.inr fun c hc => ?_)
      rw [List.all_eq_true] at h3
      have h4 := h3 c (memN_iff.1 hc)
      rw [Bool.or_eq_true] at h4
      have hne : j ≠ c := fun h => by subst h; rw [hj] at hc; cases hc
      rcases h4 with h4 | h4
      · by_cases hjc : j < c
        · rw [if_pos hjc] at h4; exact .inl ⟨hjc, h4⟩
        · rw [if_neg hjc] at h4; exact .inr (.inl ⟨by omega, h4⟩)
      · refine .inr (.inr ?_)
        split at h4
        · rename_i oc hoc
          refine ⟨oc, hoc, ?_⟩
          simp only [Bool.or_eq_true, Bool.and_eq_true, Bool.not_eq_true', List.any_eq_true] at h4
          rcases h4 with ⟨h5, h6⟩ | ⟨h5, x, hx, h7, h8⟩
          · exact .inl ⟨Nat.blt_eq.mp h5, h6⟩
          · have e1 := Nat.eq_of_beq_eq_true h7
            have e2 := Nat.eq_of_beq_eq_true h8
            obtain ⟨x1, x2⟩ := x
            simp only at e1 e2
            subst e1; subst e2
            exact .inr ⟨h5, hx⟩
        · cases h4

/-- Loads that may come ahead of, or behind, a change look at other blocks. -/
def chkG (pr : List (Nat × Nat)) (TL : List (Nat × Nat)) (AL : List (Nat × Option Nat)) : Bool :=
  pr.all fun x => match AL.lookup x.1 with
    | some (some a) => match TL.lookup x.2 with
      | some id => !Nat.beq a id && !Nat.beq id noId
      | none => false
    | _ => true

theorem rankG_le {eff : List Nat} {i j : Nat} (h : i ≤ j) : rankG eff i ≤ rankG eff j := by
  induction j with
  | zero =>
    obtain rfl : i = 0 := by omega
    exact Nat.le_refl _
  | succ j ih =>
    rw [rankG_succ]
    by_cases hj : i = j + 1
    · subst hj; rw [rankG_succ]; exact Nat.le_refl _
    · have := ih (by omega); omega
theorem rankG_lt {eff : List Nat} {i j : Nat} (hi : memN i eff = true) (h : i < j) : rankG eff i < rankG eff j := by
  have h1 := rankG_succ eff i
  rw [if_pos hi] at h1
  have := rankG_le (eff := eff) (show i + 1 ≤ j by omega)
  omega
theorem rankG_at {eff : List Nat} : ∀ (j m : Nat), m < rankG eff j → ∃ c, c < j ∧ memN c eff = true ∧ rankG eff c = m := by
  intro j
  induction j with
  | zero => intro m h; simp [rankG] at h
  | succ j ih =>
    intro m h
    rw [rankG_succ] at h
    by_cases hm : m < rankG eff j
    · obtain ⟨c, h1, h2, h3⟩ := ih m hm
      exact ⟨c, by omega, h2, h3⟩
    · split at h
      · rename_i he
        exact ⟨j, by omega, he, by omega⟩
      · omega

/-- How many of the changes have been carried out. -/
def cntG (ops : List Oper) (eff : List Nat) (L : Nat → Bool) : Nat := (List.range ops.length).countP fun j => memN j eff && L j

theorem cntG_rank {ops : List Oper} {eff : List Nat} {L : Nat → Bool} {i : Nat} (hi : i ≤ ops.length) (h : ∀ c, c < ops.length → memN c eff = true → (L c = true ↔ c < i)) : cntG ops eff L = rankG eff i := by
  unfold cntG rankG
  have h1 : (List.range ops.length).countP (fun j => memN j eff && L j) = (List.range ops.length).countP (fun j => memN j eff && decide (j < i)) := by
    refine List.countP_congr fun c hc => ?_
    have hc' := List.mem_range.1 hc
    cases he : memN c eff with
    | false => simp
    | true => simp [h c hc' he]
  rw [h1]
  obtain ⟨m, hm⟩ : ∃ m, ops.length = i + m := ⟨ops.length - i, by omega⟩
  rw [hm, List.range_add, List.countP_append]
  have e1 : (List.range i).countP (fun j => memN j eff && decide (j < i)) = (List.range i).countP fun j => memN j eff := List.countP_congr fun c hc => by
    have := List.mem_range.1 hc
    simp [this]
  have e2 : ((List.range m).map fun x => i + x).countP (fun j => memN j eff && decide (j < i)) = 0 := by
    rw [List.countP_eq_zero]
    intro c hc
    obtain ⟨x, _, rfl⟩ := List.mem_map.1 hc
    simp
  rw [e1, e2, Nat.add_zero]


theorem dqG {ops : List Oper} {eff fx : List Nat} {vals : Nat → V} {Hs : Nat → Heap} {T : Nat → Nat} {A : Nat → Option (Option Nat)} {σ : St} (hH0 : Hs 0 = σ.H)
    (hK : ∀ j o, ops[j]? = some o → KnowG P G ops eff fx vals Hs T A σ j o) : ∀ n, n ≤ rankG eff ops.length → dq ops (Hs n) = dq ops σ.H := by
  intro n
  induction n with
  | zero => intro _; rw [hH0]
  | succ n ih =>
    intro hn
    obtain ⟨c, hc, he, hr⟩ := rankG_at (eff := eff) ops.length n (by omega)
    have := hK c ops[c] (List.getElem?_eq_getElem hc)
    unfold KnowG at this
    rw [he] at this
    rw [← hr, this.2.2.1, hr]
    exact ih (by omega)

/-- From the blocks in the order of the text to those at which an operation is carried out. -/
theorem atG {ops : List Oper} {eff fx : List Nat} {pr : List (Nat × Nat)} (hg : OkG ops eff fx pr) {vals : Nat → V} {Hs : Nat → Heap} {TL : List (Nat × Nat)} {AL : List (Nat × Option Nat)} {σ : St}
    (hK : ∀ j o, ops[j]? = some o → KnowG P G ops eff fx vals Hs (fun j => (TL.lookup j).getD 0) (fun j => AL.lookup j) σ j o) (hchk : chkG pr TL AL = true)
    {i : Nat} {o : Oper} (hi : i < ops.length) (ho : ops[i]? = some o) (he : memN i eff = false) (hA : AL.lookup i = some (addrOf G o (TSG ops eff vals Hs σ i))) (hat : LoadAt G o (TSG ops eff vals Hs σ i))
    {n : Nat} (hn : n ≤ rankG eff ops.length)
    (f1 : ∀ c, memN c eff = true → c < i → ((masksG (ops.map Bnd) []).getD i 0).testBit c = true → rankG eff c < n)
    (f2 : ∀ c, memN c eff = true → i < c → ((masksG (ops.map Bnd) []).getD c 0).testBit i = true → n ≤ rankG eff c) : AtH G (memN i fx) o (TSG ops eff vals Hs σ i) (Hs n) := by
  have hne : ∀ c, memN c eff = true → c ≠ i := fun c hc h => by subst h; rw [hc] at he; cases he
  have hstep : ∀ c oc, memN c eff = true → ops[c]? = some oc → StepH oc.op ((TL.lookup c).getD 0) (Hs (rankG eff c)) (Hs (rankG eff c + 1)) := by
    intro c oc hc hoc
    have := hK c oc hoc
    unfold KnowG at this
    rw [hc] at this
    exact this.2.2.2.1
  have hH : (TSG ops eff vals Hs σ i).H = Hs (rankG eff i) := rfl
  rcases hg.oth i o he ho with h | h | hall
  · exact .inl h
  · exact .inr (.inr (.inr h))
  -- the changes between are not bound to it
  have un1 : ∀ c, memN c eff = true → rankG eff i ≤ rankG eff c → rankG eff c < n → i < c ∧ ∃ oc, ops[c]? = some oc ∧ (isLay oc.op = true ∨ (isLoad o.op = true ∧ (i, c) ∈ pr)) := by
    intro c hc h1 h2
    have hic : i < c := by
      rcases Nat.lt_trichotomy c i with h | h | h
      · have := rankG_lt hc h; omega
      · exact absurd h (hne c hc)
      · exact h
    refine ⟨hic, ?_⟩
    rcases hall c hc with ⟨_, h⟩ | ⟨h, _⟩ | ⟨oc, hoc, h⟩
    · have := f2 c hc hic h; omega
    · omega
    · exact ⟨oc, hoc, h.imp (·.2) id⟩
  have un2 : ∀ c, memN c eff = true → n ≤ rankG eff c → rankG eff c < rankG eff i → ∃ oc, ops[c]? = some oc ∧ isLoad o.op = true ∧ (i, c) ∈ pr := by
    intro c hc h1 h2
    have hic : c < i := by
      rcases Nat.lt_trichotomy c i with h | h | h
      · exact h
      · exact absurd h (hne c hc)
      · have := rankG_le (eff := eff) (Nat.le_of_lt h); omega
    rcases hall c hc with ⟨h, _⟩ | ⟨_, h⟩ | ⟨oc, hoc, h⟩
    · omega
    · have := f1 c hc hic h; omega
    · rcases h with h | h
      · omega
      · exact ⟨oc, hoc, h⟩
  by_cases hl : isLoad o.op = true
  · -- a load
    refine .inr (.inr (.inl ?_))
    unfold LoadOk
    unfold LoadAt at hat
    unfold addrOf at hA
    cases hop : o.op with
    | load t a =>
      rw [hop] at hat hA
      simp only at hat hA ⊢
      cases hv : asRp G ((TSG ops eff vals Hs σ i).ev a) with
      | ptr x off =>
        rw [hv] at hat hA
        simp only at hat hA ⊢
        rw [hH] at hat ⊢
        have hpr : ∀ c, (i, c) ∈ pr → ∃ id, TL.lookup c = some id ∧ x ≠ id ∧ id ≠ noId := by
          intro c hc
          have := List.all_eq_true.1 hchk (i, c) hc
          simp only [hA] at this
          split at this
          · rename_i id hid
            refine ⟨id, hid, fun h => ?_, fun h => ?_⟩
            · subst h
              rw [Nat.beq_refl] at this
              cases this
            · rw [h, Nat.beq_refl] at this
              simp at this
          · cases this
        rcases Nat.lt_trichotomy n (rankG eff i) with hlt | heq | hgt
        · -- earlier
          have back : ∀ d, n + d ≤ rankG eff i → (Hs n)[x]? = (Hs (n + d))[x]? := by
            intro d
            induction d with
            | zero => intro _; rfl
            | succ d ih =>
              intro hd
              rw [ih (by omega)]
              obtain ⟨c, hc, hce, hcr⟩ := rankG_at (eff := eff) ops.length (n + d) (by have := rankG_le (eff := eff) (show i ≤ ops.length by omega); omega)
              obtain ⟨oc, hoc, _, h3⟩ := un2 c hce (by omega) (by omega)
              obtain ⟨id, hid, hx, hni⟩ := hpr c h3
              have hs := (hstep c oc hce hoc).off (.inr (by rw [hid]; exact hni)) x (by rw [hid]; exact hx)
              rw [hcr] at hs
              exact hs.symm
          have := back (rankG eff i - n) (by omega)
          rw [show n + (rankG eff i - n) = rankG eff i by omega] at this
          exact this
        · rw [heq]
        · -- later
          have fwd : ∀ d, rankG eff i + d ≤ n → (Hs (rankG eff i + d))[x]? = (Hs (rankG eff i))[x]? ∧ (Hs (rankG eff i)).length ≤ (Hs (rankG eff i + d)).length := by
            intro d
            induction d with
            | zero => intro _; exact ⟨rfl, Nat.le_refl _⟩
            | succ d ih =>
              intro hd
              obtain ⟨h4, h5⟩ := ih (by omega)
              obtain ⟨c, hc, hce, hcr⟩ := rankG_at (eff := eff) ops.length (rankG eff i + d) (by omega)
              obtain ⟨hic, oc, hoc, h⟩ := un1 c hce (by omega) (by omega)
              have hst := hstep c oc hce hoc
              rw [hcr] at hst
              rcases h with h | ⟨_, h3⟩
              · have hnc : isCall oc.op = false := by cases hq : oc.op <;> first | rfl | (rw [hq] at h; cases h)
                have hid := hst.new h
                have hs := hst.off (.inl hnc) x (by rw [hid]; omega)
                exact ⟨hs.trans h4, Nat.le_trans h5 (hst.len (.inl hnc))⟩
              · obtain ⟨id, hid, hx, hni⟩ := hpr c h3
                have hs := hst.off (.inr (by rw [hid]; exact hni)) x (by rw [hid]; exact hx)
                exact ⟨hs.trans h4, Nat.le_trans h5 (hst.len (.inr (by rw [hid]; exact hni)))⟩
          have := (fwd (n - rankG eff i) (by omega)).1
          rw [show rankG eff i + (n - rankG eff i) = n by omega] at this
          exact this
      | rp cs => trivial
      | _ => rw [hv] at hat; exact hat.elim
    | _ => rw [hop] at hl; cases hl
  · -- not a load: only new blocks
    refine .inr (.inl ?_)
    have hge : rankG eff i ≤ n := by
      rcases Nat.lt_or_ge n (rankG eff i) with h | h
      · exfalso
        obtain ⟨c, hc, hce, hcr⟩ := rankG_at (eff := eff) ops.length n (by have := rankG_le (eff := eff) (show i ≤ ops.length by omega); omega)
        obtain ⟨_, _, h1, _⟩ := un2 c hce (by omega) (by omega)
        exact hl h1
      · exact h
    rw [hH]
    have fwd : ∀ d, rankG eff i + d ≤ n → PreH (Hs (rankG eff i)) (Hs (rankG eff i + d)) := by
      intro d
      induction d with
      | zero => intro _; exact PreH.rfl'
      | succ d ih =>
        intro hd
        obtain ⟨c, hc, hce, hcr⟩ := rankG_at (eff := eff) ops.length (rankG eff i + d) (by omega)
        obtain ⟨hic, oc, hoc, h⟩ := un1 c hce (by omega) (by omega)
        have hst := hstep c oc hce hoc
        rw [hcr] at hst
        rcases h with h | ⟨h1, _⟩
        · exact (ih (by omega)).trans (hst.pre h)
        · exact absurd h1 hl
    have := fwd (n - rankG eff i) (by omega)
    rwa [show rankG eff i + (n - rankG eff i) = n by omega] at this

theorem draw_g {ops : List Oper} (hok : DrawOk ops ops.length) {eff fx : List Nat} {pr : List (Nat × Nat)} (hg : OkG ops eff fx pr) {vals : Nat → V} {Hs : Nat → Heap} {TL : List (Nat × Nat)} {AL : List (Nat × Option Nat)} {σ : St}
    {Q : Exit → Act → World → Prop} {ro : Option Nat} (hd : σ.tmps.map (V.demote (dq ops σ.H)) = σ.tmps) (hH0 : Hs 0 = σ.H)
    (hK : ∀ j o, ops[j]? = some o → KnowG P G ops eff fx vals Hs (fun j => (TL.lookup j).getD 0) (fun j => AL.lookup j) σ j o) (hchk : chkG pr TL AL = true) {w0 : World} {e0 : Env}
    (hQ : ∀ a' w' e', RSt G (TSG ops eff vals Hs σ ops.length) a' w' e' → Ext σ.H w0 e0 (TSG ops eff vals Hs σ ops.length).H w' e' → Q .normal a' w') :
    ∀ (fuel : Nat) (listed : Array Bool) (a : Act) (w : World) (e : Env), listed.size = ops.length → Closed ops (fun j => listed.getD j false) →
    (ops.length ≤ fuel + (List.range ops.length).countP (fun j => listed.getD j false)) →
    RSt G (stL ops ops.length vals { σ with H := Hs (cntG ops eff fun j => listed.getD j false) } fun j => listed.getD j false) a w e →
    Ext σ.H w0 e0 (Hs (cntG ops eff fun j => listed.getD j false)) w e → wpAnyIn (FW ro) 0 P .any ops.toArray Q fuel listed a w := by
  have hdq := dqG hH0 hK
  have hcle : ∀ L, cntG ops eff L ≤ rankG eff ops.length := fun L => by
    unfold cntG rankG
    exact List.countP_mono_left fun j _ h => by
      simp only [Bool.and_eq_true] at h
      exact h.1
  have hdem : ∀ n, n ≤ rankG eff ops.length → ∀ L, (stL ops ops.length vals { σ with H := Hs n } L).tmps.map (V.demote (dq ops (Hs n))) = (stL ops ops.length vals { σ with H := Hs n } L).tmps := by
    intro n hn L
    rw [hdq n hn]
    refine List.ext_getElem? fun t => ?_
    rw [List.getElem?_map, stL_get]
    cases hv : σ.tmps[t]? with
    | none => rfl
    | some v =>
      simp only [Option.map_some, Option.some.injEq]
      have hvd : V.demote (dq ops σ.H) v = v := by
        have : (σ.tmps.map (V.demote (dq ops σ.H)))[t]? = σ.tmps[t]? := by rw [hd]
        rw [List.getElem?_map, hv] at this
        simpa using this
      cases hw : own ops ops.length t with
      | none => exact hvd
      | some j =>
        obtain ⟨hj, o, ho, _⟩ := own_some hw
        simp only
        split
        · have := hK j o ho
          have hr : rankG eff j ≤ rankG eff ops.length := rankG_le (by omega)
          unfold KnowG at this
          split at this
          · have h2 := this.2.1
            rw [hdq _ hr] at h2
            exact h2
          · have h2 := this.1
            rw [hdq _ hr] at h2
            exact h2
        · exact hvd
  have fin : ∀ (listed : Array Bool) a w e, (∀ j, j < ops.length → listed.getD j false = true) → RSt G (stL ops ops.length vals { σ with H := Hs (cntG ops eff fun j => listed.getD j false) } fun j => listed.getD j false) a w e →
      Ext σ.H w0 e0 (Hs (cntG ops eff fun j => listed.getD j false)) w e → Q .normal a w := by
    intro listed a w e hall h hx
    have hc : cntG ops eff (fun j => listed.getD j false) = rankG eff ops.length := cntG_rank (Nat.le_refl _) fun c hc _ => ⟨fun _ => hc, fun _ => hall c hc⟩
    have hst : (stL ops ops.length vals { σ with H := Hs (cntG ops eff fun j => listed.getD j false) } fun j => listed.getD j false) = TSG ops eff vals Hs σ ops.length := by
      rw [hc]
      unfold TSG
      refine st_ext rfl rfl rfl fun t => ?_
      rw [stL_get, stL_get]
      congr 1
      funext v
      cases hw : own ops ops.length t with
      | none => rfl
      | some j =>
        obtain ⟨hj, _⟩ := own_some hw
        simp [hall j hj, hj]
    rw [hst] at h
    rw [hc] at hx
    exact hQ a w e h hx
  intro fuel
  induction fuel with
  | zero =>
    intro listed a w e hs hc hf h hx
    have hallq : ∀ j, j < ops.length → listed.getD j false = true := by
      have hle := List.countP_le_length (p := fun j => listed.getD j false) (l := List.range ops.length)
      have : (List.range ops.length).countP (fun j => listed.getD j false) = (List.range ops.length).length := by
        rw [List.length_range] at hle ⊢; omega
      rw [List.countP_eq_length] at this
      exact fun j hj => this j (List.mem_range.2 hj)
    refine ⟨?_, fin listed a w e hallq h hx⟩
    refine List.eq_nil_iff_forall_not_mem.2 fun j hj => ?_
    obtain ⟨h1, o, ho, _⟩ := mem_ready.1 hj
    have hlt : j < ops.length := by
      rw [List.getElem?_toArray] at ho
      exact (List.getElem?_eq_some_iff.1 ho).1
    have := hallq j hlt
    have hjs : j < listed.size := by omega
    simp [hjs] at h1 this
    rw [this] at h1; cases h1
  | succ fuel ih =>
    intro listed a w e hs hc hf h hx
    refine ⟨fun hr => ?_, fun i hi => ?_⟩
    · -- all have been carried out
      refine fin listed a w e (fun j hj => ?_) h hx
      induction j using Nat.strongRecOn with
      | _ j ihj =>
        cases hb : listed.getD j false with
        | true => rfl
        | false =>
          exfalso
          have hjs : j < listed.size := by omega
          have : j ∈ Region.ready .any ops.toArray listed := by
            refine mem_ready.2 ⟨by simp [hjs] at hb ⊢; exact hb, ops[j], by simp [hj], fun ed hed hb => ?_⟩
            have hlt := hok.up j ops[j] (List.getElem?_eq_getElem hj) ed.on (List.mem_map.2 ⟨ed, List.mem_filter.2 ⟨by simpa using hed, hb⟩, rfl⟩)
            exact ihj ed.on hlt (by omega)
          rw [hr] at this
          cases this
    · obtain ⟨h1, o, ho, hall⟩ := mem_ready.1 hi
      rw [List.getElem?_toArray] at ho
      have hlt : i < ops.length := (List.getElem?_eq_some_iff.1 ho).1
      have his : i < listed.size := by omega
      have hbnd : ∀ e' ∈ Bnd o, listed.getD e' false = true := fun e' he' => by
        obtain ⟨ed, hed, rfl⟩ := List.mem_map.1 he'
        obtain ⟨h3, h4⟩ := List.mem_filter.1 hed
        exact hall ed (by simpa using h3) h4
      have hif : listed.getD i false = false := by simp [his] at h1 ⊢; exact h1
      have hLeq : (fun j => listed.getD j false || decide (j = i)) = fun j => (listed.setIfInBounds i true).getD j false := by
        funext j
        by_cases hji : i = j
        · subst hji
          simp [his]
        · have hji' : ¬ j = i := fun h => hji h.symm
          rw [getD_set_ne false hji]
          simp [hji']
      have next : ∀ a' w' e', RSt G (stL ops ops.length vals { σ with H := Hs (cntG ops eff fun j => (listed.setIfInBounds i true).getD j false) } fun j => (listed.setIfInBounds i true).getD j false) a' w' e' →
          Ext σ.H w0 e0 (Hs (cntG ops eff fun j => (listed.setIfInBounds i true).getD j false)) w' e' → wpAnyIn (FW ro) 0 P .any ops.toArray Q fuel (listed.setIfInBounds i true) a' w' := by
        intro a' w' e' hst' hx'
        refine ih _ a' w' e' (by simpa using hs) (fun j o' hj hL e'' he'' => ?_) ?_ hst' hx'
        · simp only [← congrFun hLeq j] at hL
          simp only [← congrFun hLeq e'']
          simp only [Bool.or_eq_true, decide_eq_true_eq] at hL ⊢
          rcases hL with hL | rfl
          · exact .inl (hc j o' hj hL e'' he'')
          · rw [ho] at hj
            cases hj
            exact .inl (hbnd e'' he'')
        · have hcnt : (List.range ops.length).countP (fun j => (listed.setIfInBounds i true).getD j false) = (List.range ops.length).countP (fun j => listed.getD j false) + 1 := by
            rw [← hLeq]
            have gen : ∀ n, (List.range n).countP (fun j => listed.getD j false || decide (j = i)) = (List.range n).countP (fun j => listed.getD j false) + if i < n then 1 else 0 := by
              intro n
              induction n with
              | zero => simp
              | succ n ihn =>
                rw [List.range_succ, List.countP_append, List.countP_append, ihn]
                simp only [List.countP_cons, List.countP_nil, Nat.zero_add]
                by_cases hni : n = i
                · subst hni
                  rw [hif]
                  simp
                · simp only [hni, decide_false, Bool.or_false]
                  by_cases h1 : i < n
                  · have h2 : i < n + 1 := by omega
                    rw [if_pos h1, if_pos h2]; omega
                  · have h2 : ¬ i < n + 1 := by omega
                    rw [if_neg h1, if_neg h2]; omega
            rw [gen, if_pos hlt]
          rw [hcnt]
          omega
      have hag := agree_stL hok vals { σ with H := Hs (cntG ops eff fun j => listed.getD j false) } (fun j => listed.getD j false) hc hlt ho hbnd hif
      have hKi := hK i o ho
      have hri : rankG eff i ≤ rankG eff ops.length := rankG_le (by omega)
      -- which changes have been carried out
      have in1 : ∀ c, memN c eff = true → c < i → ((masksG (ops.map Bnd) []).getD i 0).testBit c = true → listed.getD c false = true := fun c _ _ hb => closed_mask hok.up hc i o ho hbnd c hb
      have in2 : ∀ c, memN c eff = true → i < c → ((masksG (ops.map Bnd) []).getD c 0).testBit i = true → listed.getD c false = false := fun c hce hic hb => by
        cases hL : listed.getD c false with
        | false => rfl
        | true =>
          have hcl := hg.lt c hce
          have := closed_mask hok.up hc c ops[c] (List.getElem?_eq_getElem hcl) (fun e he => hc c ops[c] (List.getElem?_eq_getElem hcl) hL e he) i hb
          rw [hif] at this; cases this
      have pre : ∀ c c', memN c eff = true → memN c' eff = true → c < c' → listed.getD c' false = true → listed.getD c false = true := fun c c' hce hce' hcc hL => by
        have hcl := hg.lt c' hce'
        exact closed_mask hok.up hc c' ops[c'] (List.getElem?_eq_getElem hcl) (fun e he => hc c' ops[c'] (List.getElem?_eq_getElem hcl) hL e he) c (hg.tot c c' hce hce' hcc)
      cases he : memN i eff with
      | true =>
        -- a change
        unfold KnowG at hKi
        rw [he] at hKi
        obtain ⟨hgd, hdm, hdq1, hstp, hop⟩ := hKi
        have hLi : ∀ c, c < ops.length → memN c eff = true → (listed.getD c false = true ↔ c < i) := by
          intro c hcl hce
          refine ⟨fun hL => ?_, fun hlt2 => in1 c hce hlt2 (hg.tot c i hce he hlt2)⟩
          rcases Nat.lt_trichotomy c i with h2 | h2 | h2
          · exact h2
          · subst h2; rw [hif] at hL; cases hL
          · have := in2 c hce h2 (hg.tot i c he hce h2)
            rw [this] at hL; cases hL
        have hcnt : cntG ops eff (fun j => listed.getD j false) = rankG eff i := cntG_rank (by omega) hLi
        have hcnt1 : cntG ops eff (fun j => (listed.setIfInBounds i true).getD j false) = rankG eff i + 1 := by
          have hr1 : rankG eff (i + 1) = rankG eff i + 1 := by rw [rankG_succ, if_pos he]
          rw [← hr1]
          refine cntG_rank (by omega) fun c hcl hce => ?_
          simp only [← congrFun hLeq c, Bool.or_eq_true, decide_eq_true_eq]
          rw [hLi c hcl hce]
          omega
        rw [hcnt] at h hx hag
        unfold wpOpIn
        simp only [List.getElem?_toArray, ho]
        rw [want_run (b := true) h (by unfold Want; rw [hgd]), if_pos rfl]
        refine hop (stL ops ops.length vals { σ with H := Hs (rankG eff i) } fun j => listed.getD j false) rfl (fun x hx => hag.agree.2 x hx) ro a w e h _ _ fun x w' v τ e' hk' hc' hst hv hx2 => ?_
        obtain ⟨hτ, hvd⟩ := hk'
        have hτ2 : τ = stL ops ops.length vals { σ with H := Hs (rankG eff i + 1) } fun j => listed.getD j false := by
          rcases hτ with rfl | ⟨hvc, rfl⟩
          · rfl
          · refine st_ext rfl rfl rfl fun t => ?_
            have h3 := hdem (rankG eff i) hri fun j => listed.getD j false
            rw [dq_call (List.mem_of_getElem? ho) hvc] at h3
            show ((stL ops ops.length vals { σ with H := Hs (rankG eff i) } fun j => listed.getD j false).tmps.map (V.demote (heapCls (Hs (rankG eff i)))))[t]? = _
            rw [h3]
            rfl
        subst hτ2
        have hst2 := hst.put o.dst (hv.demote (dq ops (Hs (rankG eff i))))
        rw [← hvd, stL_put hok vals _ _ hlt ho] at hst2
        refine next _ _ e' ?_ ?_
        · rw [hcnt1, ← hLeq]; exact hst2
        · rw [hcnt1]; exact hx.trans hx2
      | false =>
        have hcnt1 : cntG ops eff (fun j => (listed.setIfInBounds i true).getD j false) = cntG ops eff (fun j => listed.getD j false) := by
          unfold cntG
          refine List.countP_congr fun c hcm => ?_
          simp only [← congrFun hLeq c]
          by_cases hci : c = i
          · subst hci; rw [he]; simp
          · simp [hci]
        have hcl := hcle fun j => listed.getD j false
        -- the changes ahead and behind
        have f1 : ∀ c, memN c eff = true → c < i → ((masksG (ops.map Bnd) []).getD i 0).testBit c = true → rankG eff c < cntG ops eff (fun j => listed.getD j false) := by
          intro c hce hci hb
          have hL := in1 c hce hci hb
          have hlc := hg.lt c hce
          have h3 : rankG eff (c + 1) ≤ cntG ops eff (fun j => listed.getD j false) := by
            have e1 : cntG ops eff (fun j => decide (j < c + 1)) = rankG eff (c + 1) := cntG_rank (by omega) fun d _ _ => by simp
            rw [← e1]
            unfold cntG
            refine List.countP_mono_left fun d hd hh => ?_
            simp only [Bool.and_eq_true, decide_eq_true_eq] at hh ⊢
            refine ⟨hh.1, ?_⟩
            by_cases hdc : d = c
            · subst hdc; exact hL
            · exact pre d c hh.1 hce (by omega) hL
          rw [rankG_succ, if_pos hce] at h3
          omega
        have f2 : ∀ c, memN c eff = true → i < c → ((masksG (ops.map Bnd) []).getD c 0).testBit i = true → cntG ops eff (fun j => listed.getD j false) ≤ rankG eff c := by
          intro c hce hci hb
          have hL := in2 c hce hci hb
          have hlc := hg.lt c hce
          have e1 : cntG ops eff (fun j => decide (j < c)) = rankG eff c := cntG_rank (by omega) fun d _ _ => by simp
          rw [← e1]
          unfold cntG
          refine List.countP_mono_left fun d hd hh => ?_
          simp only [Bool.and_eq_true, decide_eq_true_eq] at hh ⊢
          refine ⟨hh.1, ?_⟩
          rcases Nat.lt_trichotomy d c with h2 | h2 | h2
          · exact h2
          · subst h2; rw [hL] at hh; cases hh.2
          · have := pre c d hce hh.1 h2 hh.2
            rw [hL] at this; cases this
        unfold KnowG at hKi
        rw [he] at hKi
        obtain ⟨hdm, hK2⟩ := hKi
        have hq : QC P G ops o (stL ops ops.length vals { σ with H := Hs (cntG ops eff fun j => listed.getD j false) } fun l => decide (l < i)) (vals i) := by
          have htm : ∀ t : Nat, (stL ops ops.length vals { σ with H := Hs (cntG ops eff fun j => listed.getD j false) } fun l => decide (l < i)).tmps[t]? = (TSG ops eff vals Hs σ i).tmps[t]? := fun t => rfl
          have hev : ∀ x, (stL ops ops.length vals { σ with H := Hs (cntG ops eff fun j => listed.getD j false) } fun l => decide (l < i)).ev x = (TSG ops eff vals Hs σ i).ev x := fun x => by cases x <;> rfl
          have hwant : ∀ b, Want ops o (TSG ops eff vals Hs σ i) b → Want ops o (stL ops ops.length vals { σ with H := Hs (cntG ops eff fun j => listed.getD j false) } fun l => decide (l < i)) b := fun b hb => hb
          have hdqn : dq ops (stL ops ops.length vals { σ with H := Hs (cntG ops eff fun j => listed.getD j false) } fun l => decide (l < i)).H = dq ops (Hs (rankG eff i)) := by
            show dq ops (Hs _) = _
            rw [hdq _ hcl, hdq _ hri]
          refine ⟨by rw [hdqn]; exact hdm, ?_⟩
          rcases hK2 with ⟨hw, hA, hat, v, hv, hop⟩ | ⟨hw, hv⟩
          · refine .inl ⟨hwant _ hw, v, by rw [hdqn]; exact hv, fun σ' hagr ro a w e hst => hop σ' ?_ (fun x hx => (hagr.2 x hx).trans (hev x)) ro a w e hst⟩
            have hAt := atG hg hK hchk hlt ho he hA hat hcl f1 f2
            rcases hagr.1 with h3 | h3
            · exact .inl h3
            · rcases hAt with h4 | h4 | h4 | h4
              · exact .inl h4
              · exact .inr (.inl (h4.trans h3))
              · refine .inr (.inr (.inl ?_))
                unfold LoadOk at h4 ⊢
                unfold LoadAt at hat
                cases hop2 : o.op with
                | load t x =>
                  rw [hop2] at h4 hat
                  simp only at h4 hat ⊢
                  cases hv2 : asRp G ((TSG ops eff vals Hs σ i).ev x) with
                  | ptr y off =>
                    rw [hv2] at h4 hat
                    simp only at h4 hat ⊢
                    have hy : ∃ b, (TSG ops eff vals Hs σ i).H[y]? = some b := ⟨_, List.getElem?_eq_getElem hat⟩
                    obtain ⟨b, hb⟩ := hy
                    rw [hb] at h4 ⊢
                    exact h3.get h4
                  | rp cs => trivial
                  | _ => rw [hv2] at hat; exact hat.elim
                | _ => rw [hop2] at h4; exact h4.elim
              · exact .inr (.inr (.inr h4))
          · exact .inr ⟨hwant _ hw, hv⟩
        refine qc_run ho hq hag h (by have := hdem _ hcl fun j => listed.getD j false; exact this) fun a' w' e' hst' hx' => ?_
        rw [stL_put hok vals _ _ hlt ho] at hst'
        refine next a' w' e' ?_ ?_
        · rw [hcnt1, ← hLeq]; exact hst'
        · rw [hcnt1]; exact hx.trans hx'

theorem wpc_drawG {id : Nat} {ops : Array Oper} {Φ : Exit → St → Prop} {σ : St} (eff fx : List Nat) (pr : List (Nat × Nat)) (hm : P.follows .mixedOrders = true) (hok : drawOk ops.toList ops.toList.length = true) (hg : okG ops.toList eff fx pr = true)
    (h : evG P G ops.toList eff fx ops.toList 0 { σ with tmps := σ.tmps.map (V.demote (dq ops.toList σ.H)) } [] [] fun σ' TL AL => chkG pr TL AL = true ∧ Φ .normal σ') : WPc P G (.region id ops true) Φ σ := by
  intro a w e hst
  have hok := drawOk_spec hok
  have hg := okG_spec hg
  refine wpIn_region_any hm ?_
  let σ1 : St := { σ with tmps := σ.tmps.map (V.demote (dq ops.toList σ.H)) }
  obtain ⟨hst1, hx1⟩ := hst.drew
  have hst2 : RSt G σ1 a w.drew e := ⟨hst1.heap, ⟨by
    show (σ.tmps.map _).length = _
    simpa using hst1.tmps.1, fun i v u hv hu => by
    simp only [σ1, List.getElem?_map] at hv
    obtain ⟨v', hv', rfl⟩ := Option.map_eq_some_iff.1 hv
    exact (hst1.tmps.2 i v' u hv' hu).demote _⟩, hst1.defs, hst1.defsN, hst1.cur⟩
  have h0 : ∀ vals, TSG ops.toList eff vals (fun _ => σ.H) σ1 0 = σ1 := fun vals => by
    refine st_ext rfl rfl rfl fun t => ?_
    unfold TSG
    rw [stL_get]
    show Option.map _ σ1.tmps[t]? = _
    cases σ1.tmps[t]? with
    | none => rfl
    | some v => cases own ops.toList ops.toList.length t <;> simp
  obtain ⟨vals, Hs, TL, AL, _, hHs, _, hK, hchk, hk⟩ := evG_vals hok σ1 _ ops.toList.length 0 (fun _ => .bad) (fun _ => σ.H) [] [] (by omega) (by rw [h0]; exact h)
  have hr0 : rankG eff 0 = 0 := rfl
  have hH0 : Hs 0 = σ1.H := hHs 0 (by rw [hr0]; exact Nat.le_refl _)
  have hz : (fun j => (Array.replicate ops.size false).getD j false) = fun _ => false := by
    funext j
    by_cases hj : j < ops.size <;> simp [hj]
  have hc0 : cntG ops.toList eff (fun j => (Array.replicate ops.size false).getD j false) = 0 := by
    rw [hz]
    unfold cntG
    rw [List.countP_eq_zero]
    intro j _
    simp
  have := draw_g (ro := σ.cur.map e.ρ) hok hg (σ := σ1) (vals := vals) (Hs := Hs) (TL := TL) (AL := AL) (Q := fun x a' w' => ∃ σ' e', Φ x σ' ∧ σ'.cur = σ.cur ∧ RSt G σ' a' w' e' ∧ Ext σ.H w e σ'.H w' e') (w0 := w) (e0 := e)
    (by simp only [σ1, List.map_map]; exact List.map_congr_left fun v _ => demote_demote _ v) hH0 (fun j o ho => (hK j o (Nat.zero_le _) ho).1) hchk
    (fun a' w' e' h1 h2 => ⟨_, e', hk, rfl, h1, h2⟩)
    ops.size (Array.replicate ops.size false) a w.drew e (by simp) (fun i o hi hL => by
      exfalso
      have h5 : (Array.replicate ops.size false).getD i false = false := congrFun hz i
      have h6 : (Array.replicate ops.size false).getD i false = true := hL
      rw [h5] at h6; cases h6) (by simp) (by
      rw [hc0, hz]
      have : (stL ops.toList ops.toList.length vals { σ1 with H := Hs 0 } fun _ => false) = σ1 := by
        refine st_ext hH0 rfl rfl fun t => ?_
        rw [stL_get]
        show Option.map _ σ1.tmps[t]? = _
        cases σ1.tmps[t]? with
        | none => rfl
        | some v => cases own ops.toList ops.toList.length t <;> simp
      rw [this]
      exact hst2) (by rw [hc0, hH0]; exact hx1)
  simpa using this


/-! ### the same, for reduction -/
def evQG2 (P : Program) (G : Nat → Option (List V)) (fx : Bool) (o : Oper) (s : S2) (K : V → Prop) : Prop :=
  match fx with
  | false => evQ2 P G o s K
  | true => match o.op with
    | .call { callee := .value f, args, .. } => match s.ev f with
      | .fn (.func g) a b => ∃ u, (∀ H, Call2 P G g ((a ++ (args.toList.map s.ev) ++ b).map V.strip) H (fun r H' => H' = H ∧ r = u)) ∧ K u
      | _ => False
    | _ => False

theorem evQG2_imp {fx : Bool} {o : Oper} {s : S2} {K : V → Prop} (hw : s.Wf) (h : evQG2 P G fx o s K) : evQG P G fx o s.st K := by
  have hev : ∀ x, s.st.ev x = s.ev x := fun x => S2.ev_eq hw x
  have hmap : ∀ l : List Operand, l.map s.st.ev = l.map s.ev := fun l => List.map_congr_left fun x _ => hev x
  cases fx with
  | false => exact evQ2_imp hw h
  | true =>
    simp only [evQG2] at h
    simp only [evQG]
    split at h
    · rename_i f args ts ho
      try simp only [ho]
      rw [hev]
      split at h
      · rename_i g a b hf
        obtain ⟨u, h1, h2⟩ := h
        try simp only [hf]
        refine ⟨(h1 []).1, u, ?_, h2⟩
        intro H
        rw [hmap]
        exact (h1 H).2
      · exact h.elim
    · exact h.elim

def evEffN2 (P : Program) (G : Nat → Option (List V)) (o : Oper) (s : S2) (K : V → Heap → Nat → Prop) : Prop :=
  match o.op with
  | .store t a x => match s.ev a with
    | .ptr id off => evStore2 P t s.H (s.ev x) (fun H => K (.tup []) H id) (.ptr id off)
    | _ => False
  | .alloc t => match zeroOf P t with
    | some cs => grd (cs.all fun v => !v.isCls) (K (.ptr s.H.length 0) (s.H ++ [some (.cells t cs)]) s.H.length)
    | none => False
  | .box t x => match (s.ev x).cellsF with
    | some cs => grd (cs.all fun v => !v.isCls) (K (.ptr s.H.length 0) (s.H ++ [some (.cells t cs)]) s.H.length)
    | none => False
  | .makeSlice t n c => match slOf P t, s.ev n, s.ev c with
    | some (e, sz, bytes), .im (.int _ a), .im (.int _ b) => match zeroOf P e with
      | some z => grd ((z.all fun v => !v.isCls) && Nat.beq z.length sz && Nat.ble 1 sz) ((b = a ∧ 0 ≤ a ∧ a ≤ maxBytes ∧ bytes * a ≤ maxBytes) ∧ K (.arr s.H.length sz a.toNat) (s.H ++ [some (.cells e (List.replicate a.toNat z).flatten)]) s.H.length)
      | none => False
    | _, _, _ => False
  | .call { callee := .value f, args, .. } => match s.ev f with
    | .fn (.func g) a b => ∃ v H', Call2 P G g ((a ++ (args.toList.map s.ev) ++ b).map V.strip) s.H (fun r H'' => H'' = H' ∧ r = v) ∧ K v H' 4294967295
    | _ => False
  | _ => False

def evEffC2 (P : Program) (G : Nat → Option (List V)) (o : Oper) (s : S2) (K : V → Heap → Nat → Prop) : Prop :=
  match o.op with
  | .call { callee := .value f, args, .. } => match s.ev f with
    | .fn (.func g) a b => ∃ v H' id, Call2 P G g ((a ++ (args.toList.map s.ev) ++ b).map V.strip) s.H (fun r H'' => H'' = H' ∧ r = v) ∧ (∀ i, i ≠ id → H'[i]? = s.H[i]?) ∧ s.H.length ≤ H'.length ∧ K v H' id
    | _ => False
  | _ => False

def evEff2 (P : Program) (G : Nat → Option (List V)) (fx : Bool) (o : Oper) (s : S2) (K : V → Heap → Nat → Prop) : Prop :=
  match fx with
  | true => evEffC2 P G o s K
  | false => evEffN2 P G o s K

theorem evStore_imp {t : TypeId} {σ : St} {v : V} {k k' : St → Prop} {x : V} (hm : ∀ τ, k τ → k' τ) (h : evStore P t σ v k x) : evStore P t σ v k' x := by
  cases x with
  | ptr id off =>
    obtain ⟨b, hk, hall⟩ := evStore_ptr h
    exact hall σ k' rfl (hm _ hk)
  | _ => exact h.elim

theorem evEffN2_imp {o : Oper} {s : S2} {K K' : V → Heap → Nat → Prop} (hw : s.Wf) (hm : ∀ v H id, (isLay o.op = true → PreH s.H H) → K v H id → K' v H id) (h : evEffN2 P G o s K) : evEffN P G o s.st K' := by
  have hev : ∀ x, s.st.ev x = s.ev x := fun x => S2.ev_eq hw x
  have hmap : ∀ l : List Operand, l.map s.st.ev = l.map s.ev := fun l => List.map_congr_left fun x _ => hev x
  unfold evEffN2 at h
  unfold evEffN
  split at h
  · rename_i t a x ho
    try simp only [ho]
    rw [hev, hev]
    split at h
    · rename_i id off hv
      try simp only [hv]
      have h2 : evStore P t s.st (s.ev x) (fun τ => K (.tup []) τ.H id) (.ptr id off) := evStore2_imp (σ := s.st) (k := fun τ => K (.tup []) τ.H id) h
      exact evStore_imp (fun τ hk => hm _ _ _ (fun hl => by rw [ho] at hl; cases hl) hk) h2
    · exact h.elim
  · rename_i t ho
    try simp only [ho]
    split at h
    · rename_i cs hz
      try simp only [hz]
      rw [grd_iff] at h
      exact ⟨h.1, hm _ _ _ (fun _ => pre_lay h.1) h.2⟩
    · exact h.elim
  · rename_i t x ho
    try simp only [ho]
    rw [hev]
    split at h
    · rename_i cs hz
      try simp only [hz]
      rw [grd_iff] at h
      exact ⟨h.1, hm _ _ _ (fun _ => pre_lay h.1) h.2⟩
    · exact h.elim
  · rename_i t n c ho
    try simp only [ho]
    rw [hev, hev]
    split at h
    · rename_i el sz bytes k1 a k2 b hsl hn hc
      try simp only [hsl, hn, hc]
      split at h
      · rename_i z hz
        try simp only [hz]
        rw [grd_iff, Bool.and_eq_true, Bool.and_eq_true, Nat.ble_eq, Nat.beq_eq] at h
        exact ⟨h.1.1.1, ⟨h.1.1.2, h.1.2⟩, h.2.1, hm _ _ _ (fun _ => pre_lay (all_flat h.1.1.1 _)) h.2.2⟩
      · exact h.elim
    · exact h.elim
  · rename_i f args ts ho
    try simp only [ho]
    rw [hev]
    split at h
    · rename_i g a b hf
      obtain ⟨v, H', hc, hk⟩ := h
      try simp only [hf]
      refine ⟨hc.1, v, H', ?_, hm _ _ _ (fun hl => by rw [ho] at hl; cases hl) hk⟩
      rw [hmap]
      exact hc.2
    · exact h.elim
  · exact h.elim

theorem evEffC2_imp {o : Oper} {s : S2} {K K' : V → Heap → Nat → Prop} (hw : s.Wf) (hm : ∀ v H id, (isLay o.op = true → PreH s.H H) → K v H id → K' v H id) (h : evEffC2 P G o s K) : evEffC P G o s.st K' := by
  have hev : ∀ x, s.st.ev x = s.ev x := fun x => S2.ev_eq hw x
  have hmap : ∀ l : List Operand, l.map s.st.ev = l.map s.ev := fun l => List.map_congr_left fun x _ => hev x
  unfold evEffC2 at h
  unfold evEffC
  split at h
  · rename_i f args ts ho
    try simp only [ho]
    rw [hev]
    split at h
    · rename_i g a b hf
      obtain ⟨v, H', id, hc, h1, h2, hk⟩ := h
      try simp only [hf]
      refine ⟨hc.1, v, H', id, ?_, h1, h2, hm _ _ _ (fun hl => by rw [ho] at hl; cases hl) hk⟩
      rw [hmap]
      exact hc.2
    · exact h.elim
  · exact h.elim

theorem evEff2_imp {fx : Bool} {o : Oper} {s : S2} {K K' : V → Heap → Nat → Prop} (hw : s.Wf) (hm : ∀ v H id, (isLay o.op = true → PreH s.H H) → K v H id → K' v H id) (h : evEff2 P G fx o s K) : evEff P G fx o s.st K' := by
  cases fx with
  | true => exact evEffC2_imp hw hm h
  | false => exact evEffN2_imp hw hm h

def noClsB : Option Blk → Bool
  | some (.cells _ vs) => vs.all fun v => !v.isCls
  | _ => true
theorem noCls_heap {H : Heap} (h : (H.all noClsB) = true) : heapCls H = fun _ => false := by
  funext k
  unfold heapCls
  rw [List.any_eq_false]
  intro b hb
  have h1 := List.all_eq_true.1 h b hb
  cases b with
  | none => simp
  | some b => cases b with
    | cells t vs =>
      have := noCls_any h1 k
      simpa [Blk.hasCls] using this
    | _ => simp [Blk.hasCls]

/-- The classes that nobody lets know of stay the same. -/
def dqOk (all : List Oper) (H H' : Heap) : Bool := match all.any isVCall with
  | false => true
  | true => H.all noClsB && H'.all noClsB
theorem dqOk_spec {all : List Oper} {H H' : Heap} (h : dqOk all H H' = true) : dq all H' = dq all H := by
  unfold dqOk at h
  unfold dq
  split at h
  · rename_i hv; rw [hv]
  · rename_i hv
    rw [hv]
    simp only [Bool.and_eq_true] at h
    rw [noCls_heap h.1, noCls_heap h.2]

/-- An operation that only lays a block lets the classes be as they are. -/
def dqOkL (lay : Bool) (all : List Oper) (H H' : Heap) : Bool := match lay with
  | true => true
  | false => dqOk all H H'
theorem dq_pre {all : List Oper} {H H' : Heap} (h : PreH H H') : dq all H' = dq all H := by
  obtain ⟨X, hX, rfl⟩ := h
  unfold dq
  split
  · funext k
    have := hX k
    unfold heapCls at *
    rw [List.any_append, this, Bool.or_false]
  · rfl

def addr2 (G : Nat → Option (List V)) (o : Oper) (s : S2) : Option Nat :=
  match o.op with
  | .load _ a => match asRp G (s.ev a) with
    | .ptr i _ => some i
    | _ => none
  | _ => none
theorem addr2_eq {o : Oper} {s : S2} (hw : s.Wf) : addrOf G o s.st = addr2 G o s := by
  unfold addrOf addr2
  split
  · rename_i t a ho
    try simp only [ho]
    rw [S2.ev_eq hw]
  · rename_i hne
    first
      | rfl
      | (split
         · rename_i t a ho; exact absurd ho (hne t a)
         · rfl)

noncomputable def evG2 (P : Program) (G : Nat → Option (List V)) (all : List Oper) (eff fx : List Nat) (l : List Oper) : Nat → S2 → List (Nat × Nat) → List (Nat × Option Nat) → (S2 → List (Nat × Nat) → List (Nat × Option Nat) → Prop) → Prop :=
  List.rec (motive := fun _ => Nat → S2 → List (Nat × Nat) → List (Nat × Option Nat) → (S2 → List (Nat × Nat) → List (Nat × Option Nat) → Prop) → Prop) (fun _ s TL AL k => k s TL AL) (fun o _ ih i s TL AL k =>
    match memN i eff with
    | true => match o.guard with
      | none => evEff2 P G (memN i fx) o s fun v H' id => grd (dqOkL (isLay o.op) all s.H H') (demK all s.H v fun v => put2 (s.setH H') o.dst v fun s' => ih (i + 1) s' ((i, id) :: TL) AL k)
      | some _ => False
    | false => match o.guard with
      | none => evQG2 P G (memN i fx) o s fun v => demK all s.H v fun v => put2 s o.dst v fun s' => ih (i + 1) s' TL ((i, addr2 G o s) :: AL) k
      | some (j, want) => match (all[j]?).bind (·.dst) with
        | none => False
        | some d => match look s.upd s.base d with
          | .im (.bool b) => match want with
            | true => br b (evQG2 P G (memN i fx) o (shadow s d true) fun v => demK all s.H v fun v => put2 (shadow s d true) o.dst v fun s' => ih (i + 1) s' TL ((i, addr2 G o (shadow s d true)) :: AL) k) (put2 (shadow s d false) o.dst (.tup []) fun s' => ih (i + 1) s' TL AL k)
            | false => br b (put2 (shadow s d true) o.dst (.tup []) fun s' => ih (i + 1) s' TL AL k) (evQG2 P G (memN i fx) o (shadow s d false) fun v => demK all s.H v fun v => put2 (shadow s d false) o.dst v fun s' => ih (i + 1) s' TL ((i, addr2 G o (shadow s d false)) :: AL) k)
          | .tup [] => put2 s o.dst (.tup []) fun s' => ih (i + 1) s' TL AL k
          | _ => False) l

theorem evG2_cons (all : List Oper) (eff fx : List Nat) (o : Oper) (rest : List Oper) (i : Nat) (s : S2) (TL : List (Nat × Nat)) (AL : List (Nat × Option Nat)) (k : S2 → List (Nat × Nat) → List (Nat × Option Nat) → Prop) : evG2 P G all eff fx (o :: rest) i s TL AL k =
    match memN i eff with
    | true => match o.guard with
      | none => evEff2 P G (memN i fx) o s fun v H' id => grd (dqOkL (isLay o.op) all s.H H') (demK all s.H v fun v => put2 (s.setH H') o.dst v fun s' => evG2 P G all eff fx rest (i + 1) s' ((i, id) :: TL) AL k)
      | some _ => False
    | false => match o.guard with
      | none => evQG2 P G (memN i fx) o s fun v => demK all s.H v fun v => put2 s o.dst v fun s' => evG2 P G all eff fx rest (i + 1) s' TL ((i, addr2 G o s) :: AL) k
      | some (j, want) => match (all[j]?).bind (·.dst) with
        | none => False
        | some d => match look s.upd s.base d with
          | .im (.bool b) => match want with
            | true => br b (evQG2 P G (memN i fx) o (shadow s d true) fun v => demK all s.H v fun v => put2 (shadow s d true) o.dst v fun s' => evG2 P G all eff fx rest (i + 1) s' TL ((i, addr2 G o (shadow s d true)) :: AL) k) (put2 (shadow s d false) o.dst (.tup []) fun s' => evG2 P G all eff fx rest (i + 1) s' TL AL k)
            | false => br b (put2 (shadow s d true) o.dst (.tup []) fun s' => evG2 P G all eff fx rest (i + 1) s' TL AL k) (evQG2 P G (memN i fx) o (shadow s d false) fun v => demK all s.H v fun v => put2 (shadow s d false) o.dst v fun s' => evG2 P G all eff fx rest (i + 1) s' TL ((i, addr2 G o (shadow s d false)) :: AL) k)
          | .tup [] => put2 s o.dst (.tup []) fun s' => evG2 P G all eff fx rest (i + 1) s' TL AL k
          | _ => False := rfl

theorem evQG_mono {fx : Bool} {o : Oper} {σ : St} {K K' : V → Prop} (hm : ∀ v, K v → K' v) (h : evQG P G fx o σ K) : evQG P G fx o σ K' := by
  cases fx with
  | false => exact evQ_mono hm h
  | true =>
    simp only [evQG] at *
    split at h
    · split at h
      · obtain ⟨h1, u, h2, h3⟩ := h
        exact ⟨h1, u, h2, hm _ h3⟩
      · exact h.elim
    · exact h.elim

theorem evG2_imp {all : List Oper} {eff fx : List Nat} {k : S2 → List (Nat × Nat) → List (Nat × Option Nat) → Prop} {K : St → List (Nat × Nat) → List (Nat × Option Nat) → Prop} (n : Nat) (hK : ∀ (s' : S2) TL AL, s'.Wf → s'.n = n → k s' TL AL → K s'.st TL AL) :
    ∀ (rest : List Oper) (i : Nat) (s : S2) (TL : List (Nat × Nat)) (AL : List (Nat × Option Nat)), s.Wf → s.n = n → evG2 P G all eff fx rest i s TL AL k → evG P G all eff fx rest i s.st TL AL K := by
  intro rest
  induction rest with
  | nil => intro i s TL AL hw hn h; exact hK s TL AL hw hn h
  | cons o rest ih =>
    intro i s TL AL hw hn h
    rw [evG2_cons] at h
    simp only [evG]
    cases he : memN i eff with
    | true =>
      rw [he] at h
      simp only at h ⊢
      cases hg : o.guard with
      | some g => rw [hg] at h; exact h.elim
      | none =>
        rw [hg] at h
        refine ⟨rfl, evEff2_imp hw (fun v H' id hpre hh => ?_) h⟩
        rw [grd_iff] at hh
        obtain ⟨h1, h2⟩ := hh
        rw [demK_eq] at h2
        have hwX : (s.setH H').Wf := by rw [S2.setH_eq]; exact ⟨hw.n, hw.d⟩
        obtain ⟨s'', e1, e2, e3, e4⟩ := put2_imp hwX h2
        have h1' : dq all H' = dq all s.H := by
          cases hl : isLay o.op with
          | true => exact dq_pre (hpre hl)
          | false => rw [hl] at h1; exact dqOk_spec h1
        refine ⟨h1', ?_⟩
        have := ih (i + 1) s'' _ _ e2 (e3.trans (by rw [S2.setH_eq]; exact hn)) e4
        have hst : ({ s.st with H := H' } : St) = (s.setH H').st := by rw [S2.setH_eq]; rfl
        show evG P G all eff fx rest (i + 1) (({ s.st with H := H' } : St).put o.dst (V.demote (dq all s.H) v)) _ _ K
        rw [hst, ← e1]
        exact this
    | false =>
      rw [he] at h
      simp only at h ⊢
      have run : ∀ (s : S2) (H : Heap), H = s.H → s.Wf → s.n = n → evQG2 P G (memN i fx) o s (fun v => demK all H v fun v => put2 s o.dst v fun s' => evG2 P G all eff fx rest (i + 1) s' TL ((i, addr2 G o s) :: AL) k) →
          evQG P G (memN i fx) o s.st (fun v => evG P G all eff fx rest (i + 1) (s.st.put o.dst (V.demote (dq all s.st.H) v)) TL ((i, addrOf G o s.st) :: AL) K) := by
        intro s H hH hw hn h
        subst hH
        refine evQG_mono (fun v hv => ?_) (evQG2_imp hw h)
        rw [demK_eq] at hv
        obtain ⟨s'', h1, h2, h3, h4⟩ := put2_imp hw hv
        have := ih (i + 1) s'' _ _ h2 (h3.trans hn) h4
        rw [h1] at this
        rw [addr2_eq hw]
        exact this
      have skip : ∀ s : S2, s.Wf → s.n = n → put2 s o.dst (.tup []) (fun s' => evG2 P G all eff fx rest (i + 1) s' TL AL k) → evG P G all eff fx rest (i + 1) (s.st.put o.dst (.tup [])) TL AL K := by
        intro s hw hn h
        obtain ⟨s'', h1, h2, h3, h4⟩ := put2_imp hw h
        rw [← h1]
        exact ih (i + 1) s'' _ _ h2 (h3.trans hn) h4
      cases hg : o.guard with
      | none =>
        rw [hg] at h
        exact run s s.H rfl hw hn h
      | some g =>
        obtain ⟨j, want⟩ := g
        rw [hg] at h
        simp only at h ⊢
        split at h
        · exact h.elim
        · rename_i d hd
          split at h
          · rename_i b hl
            rw [yieldedV_look hw hd (by simp) hl]
            simp only
            have hH : ∀ b, s.H = (shadow s d b).H := fun b => by rw [shadow_eq]
            have hnn : ∀ b, (shadow s d b).n = n := fun b => by rw [shadow_eq]; exact hn
            cases want with
            | true =>
              simp only [br_iff] at h
              refine ⟨fun hb => ?_, fun hb => ?_⟩
              · subst hb
                obtain ⟨h1, h2⟩ := shadow_st hw hl
                have := run _ _ (hH true) h2 (hnn _) (h.1 rfl)
                rwa [h1] at this
              · have hb' : b = false := by simpa using hb
                subst hb'
                obtain ⟨h1, h2⟩ := shadow_st hw hl
                have := skip _ h2 (hnn _) (h.2 rfl)
                rwa [h1] at this
            | false =>
              simp only [br_iff] at h
              refine ⟨fun hb => ?_, fun hb => ?_⟩
              · subst hb
                obtain ⟨h1, h2⟩ := shadow_st hw hl
                have := run _ _ (hH false) h2 (hnn _) (h.2 rfl)
                rwa [h1] at this
              · have hb' : b = true := by simpa using hb
                subst hb'
                obtain ⟨h1, h2⟩ := shadow_st hw hl
                have := skip _ h2 (hnn _) (h.1 rfl)
                rwa [h1] at this
          · rename_i hl
            rw [yieldedV_look hw hd (by simp) hl]
            exact skip s hw hn h
          · exact h.elim

/-- A region that draws its order: eff: the operations that change blocks; fx: calls that look at none; pr: loads, and changes that may come ahead of them or behind. -/
theorem wpc_drawG2 {id : Nat} {ops : Array Oper} {Φ : Exit → S2 → Prop} {s : S2} (eff fx : List Nat) (pr : List (Nat × Nat)) (hm : P.follows .mixedOrders = true) (hok : drawOk ops.toList ops.toList.length = true)
    (hg : okG ops.toList eff fx pr = true) (hw : s.Wf)
    (h : evG2 P G ops.toList eff fx ops.toList 0 (s.dem (dq ops.toList s.H)) [] [] fun s' TL AL => grd (chkG pr TL AL) (Φ .normal s')) : WPc P G (.region id ops true) (toΦ s.n Φ) s.st := by
  refine wpc_drawG eff fx pr hm hok hg ?_
  have hd := S2.dem_st (s := s) (dq ops.toList s.H)
  have hn : (s.dem (dq ops.toList s.H)).n = s.n := by unfold S2.dem; split <;> rfl
  have := evG2_imp (K := fun σ' TL AL => chkG pr TL AL = true ∧ toΦ s.n Φ .normal σ') s.n (fun s' TL AL hw' hn' h' => by
    rw [grd_iff] at h'
    exact ⟨h'.1, s', rfl, hw', hn', h'.2⟩) _ _ _ _ _ (S2.dem_wf hw _) hn h
  rw [hd] at this
  exact this

end Go.Abs

/-! DrawR -/
/- Regions that draw their order, by an invariant over what has been carried out. -/
namespace Go.Abs
open Go.RowKit
set_option linter.unusedVariables false
set_option linter.unusedSimpArgs false

variable {P : Program} {G : Nat → Option (List V)}

theorem draw_rel {ops : List Oper} (hok : DrawOk ops ops.length) {Q : Exit → Act → World → Prop} {ro : Option Nat} (Inv : (Nat → Bool) → Act → World → Prop)
    (step : ∀ (L : Nat → Bool) (i : Nat) (o : Oper) (a : Act) (w : World), Closed ops L → i < ops.length → ops[i]? = some o → (∀ e ∈ Bnd o, L e = true) → L i = false → Inv L a w →
      ∀ (next : Act → World → Prop), (∀ a' w', Inv (fun j => L j || decide (j = i)) a' w' → next a' w') → wpOpIn (FW ro) 0 P ops.toArray Q i next a w)
    (fin : ∀ (L : Nat → Bool) (a : Act) (w : World), (∀ j, j < ops.length → L j = true) → Inv L a w → Q .normal a w) :
    ∀ (fuel : Nat) (listed : Array Bool) (a : Act) (w : World), listed.size = ops.length → Closed ops (fun j => listed.getD j false) →
    (ops.length ≤ fuel + (List.range ops.length).countP (fun j => listed.getD j false)) → Inv (fun j => listed.getD j false) a w → wpAnyIn (FW ro) 0 P .any ops.toArray Q fuel listed a w := by
  intro fuel
  induction fuel with
  | zero =>
    intro listed a w hs hc hf h
    have hallq : ∀ j, j < ops.length → listed.getD j false = true := by
      have hle := List.countP_le_length (p := fun j => listed.getD j false) (l := List.range ops.length)
      have : (List.range ops.length).countP (fun j => listed.getD j false) = (List.range ops.length).length := by
        rw [List.length_range] at hle ⊢; omega
      rw [List.countP_eq_length] at this
      exact fun j hj => this j (List.mem_range.2 hj)
    refine ⟨?_, fin _ a w hallq h⟩
    refine List.eq_nil_iff_forall_not_mem.2 fun j hj => ?_
    obtain ⟨h1, o, ho, _⟩ := mem_ready.1 hj
    have hlt : j < ops.length := by
      rw [List.getElem?_toArray] at ho
      exact (List.getElem?_eq_some_iff.1 ho).1
    have := hallq j hlt
    have hjs : j < listed.size := by omega
    simp [hjs] at h1 this
    rw [this] at h1; cases h1
  | succ fuel ih =>
    intro listed a w hs hc hf h
    refine ⟨fun hr => ?_, fun i hi => ?_⟩
    · refine fin _ a w (fun j hj => ?_) h
      induction j using Nat.strongRecOn with
      | _ j ihj =>
        cases hb : listed.getD j false with
        | true => rfl
        | false =>
          exfalso
          have hjs : j < listed.size := by omega
          have : j ∈ Region.ready .any ops.toArray listed := by
            refine mem_ready.2 ⟨by simp [hjs] at hb ⊢; exact hb, ops[j], by simp [hj], fun ed hed hb => ?_⟩
            have hlt := hok.up j ops[j] (List.getElem?_eq_getElem hj) ed.on (List.mem_map.2 ⟨ed, List.mem_filter.2 ⟨by simpa using hed, hb⟩, rfl⟩)
            exact ihj ed.on hlt (by omega)
          rw [hr] at this
          cases this
    · obtain ⟨h1, o, ho, hall⟩ := mem_ready.1 hi
      rw [List.getElem?_toArray] at ho
      have hlt : i < ops.length := (List.getElem?_eq_some_iff.1 ho).1
      have his : i < listed.size := by omega
      have hbnd : ∀ e' ∈ Bnd o, listed.getD e' false = true := fun e' he' => by
        obtain ⟨ed, hed, rfl⟩ := List.mem_map.1 he'
        obtain ⟨h3, h4⟩ := List.mem_filter.1 hed
        exact hall ed (by simpa using h3) h4
      have hif : listed.getD i false = false := by simp [his] at h1 ⊢; exact h1
      have hLeq : (fun j => listed.getD j false || decide (j = i)) = fun j => (listed.setIfInBounds i true).getD j false := by
        funext j
        by_cases hji : i = j
        · subst hji
          simp [his]
        · have hji' : ¬ j = i := fun h => hji h.symm
          rw [getD_set_ne false hji]
          simp [hji']
      refine step _ i o a w hc hlt ho hbnd hif h _ fun a' w' h' => ?_
      rw [hLeq] at h'
      refine ih _ a' w' (by simpa using hs) (fun j o' hj hL e'' he'' => ?_) ?_ h'
      · simp only [← congrFun hLeq j] at hL
        simp only [← congrFun hLeq e'']
        simp only [Bool.or_eq_true, decide_eq_true_eq] at hL ⊢
        rcases hL with hL | rfl
        · exact .inl (hc j o' hj hL e'' he'')
        · rw [ho] at hj
          cases hj
          exact .inl (hbnd e'' he'')
      · have hcnt : (List.range ops.length).countP (fun j => (listed.setIfInBounds i true).getD j false) = (List.range ops.length).countP (fun j => listed.getD j false) + 1 := by
          rw [← hLeq]
          have gen : ∀ n, (List.range n).countP (fun j => listed.getD j false || decide (j = i)) = (List.range n).countP (fun j => listed.getD j false) + if i < n then 1 else 0 := by
            intro n
            induction n with
            | zero => simp
            | succ n ihn =>
              rw [List.range_succ, List.countP_append, List.countP_append, ihn]
              simp only [List.countP_cons, List.countP_nil, Nat.zero_add]
              by_cases hni : n = i
              · subst hni
                rw [hif]
                simp
              · simp only [hni, decide_false, Bool.or_false]
                by_cases h1 : i < n
                · have h2 : i < n + 1 := by omega
                  rw [if_pos h1, if_pos h2]; omega
                · have h2 : ¬ i < n + 1 := by omega
                  rw [if_neg h1, if_neg h2]; omega
          rw [gen, if_pos hlt]
        rw [hcnt]
        omega

/-- A region by an invariant. -/
theorem wpc_drawR {id : Nat} {ops : Array Oper} {Φ : Exit → St → Prop} {σ : St} (hm : P.follows .mixedOrders = true) (hok : drawOk ops.toList ops.toList.length = true)
    (h : ∀ (w0 : World) (a0 : Act) (e0 : Env), RSt G σ a0 w0 e0 → ∀ a e, RSt G { σ with tmps := σ.tmps.map (V.demote (dq ops.toList σ.H)) } a w0.drew e → Ext σ.H w0 e0 σ.H w0.drew e →
      ∃ Inv : (Nat → Bool) → Act → World → Prop, Inv (fun _ => false) a w0.drew ∧
      (∀ (L : Nat → Bool) (i : Nat) (o : Oper) (a : Act) (w : World), Closed ops.toList L → i < ops.toList.length → ops.toList[i]? = some o → (∀ e ∈ Bnd o, L e = true) → L i = false → Inv L a w →
        ∀ (Q : Exit → Act → World → Prop) (next : Act → World → Prop), (∀ a' w', Inv (fun j => L j || decide (j = i)) a' w' → next a' w') → wpOpIn (FW (σ.cur.map e0.ρ)) 0 P ops.toList.toArray Q i next a w) ∧
      (∀ (L : Nat → Bool) (a : Act) (w : World), (∀ j, j < ops.toList.length → L j = true) → Inv L a w → ∃ σ' e', Φ .normal σ' ∧ σ'.cur = σ.cur ∧ RSt G σ' a w e' ∧ Ext σ.H w0 e0 σ'.H w e')) : WPc P G (.region id ops true) Φ σ := by
  intro a w e hst
  have hok' := drawOk_spec hok
  refine wpIn_region_any hm ?_
  obtain ⟨hst1, hx1⟩ := hst.drew
  have hst2 : RSt G { σ with tmps := σ.tmps.map (V.demote (dq ops.toList σ.H)) } a w.drew e := ⟨hst1.heap, ⟨by
    show (σ.tmps.map _).length = _
    simpa using hst1.tmps.1, fun i v u hv hu => by
    simp only [List.getElem?_map] at hv
    obtain ⟨v', hv', rfl⟩ := Option.map_eq_some_iff.1 hv
    exact (hst1.tmps.2 i v' u hv' hu).demote _⟩, hst1.defs, hst1.defsN, hst1.cur⟩
  obtain ⟨Inv, h0, hstep, hfin⟩ := h w a e hst a e hst2 hx1
  have hz : (fun j => (Array.replicate ops.size false).getD j false) = fun _ => false := by
    funext j
    by_cases hj : j < ops.size <;> simp [hj]
  have := draw_rel (P := P) (ro := σ.cur.map e.ρ) hok' (Q := fun x a' w' => ∃ σ' e', Φ x σ' ∧ σ'.cur = σ.cur ∧ RSt G σ' a' w' e' ∧ Ext σ.H w e σ'.H w' e') Inv
    (fun L i o a w hc hi ho hb hL hI next hn => hstep L i o a w hc hi ho hb hL hI _ next hn)
    (fun L a w hall hI => hfin L a w hall hI)
    ops.size (Array.replicate ops.size false) a w.drew (by simp) (fun i o hi hL => by
      exfalso
      have h5 : (Array.replicate ops.size false).getD i false = false := congrFun hz i
      have h6 : (Array.replicate ops.size false).getD i false = true := hL
      rw [h5] at h6; cases h6) (by simp) (by rw [hz]; exact h0)
  simpa using this
end Go.Abs

/-! DrawM -/
/- Map literals whose entries are laid in any order. -/
namespace Go.Abs
open Go.RowKit
set_option linter.unusedVariables false
set_option linter.unusedSimpArgs false

variable {P : Program} {G : Nat → Option (List V)}

def evM (P : Program) (G : Nat → Option (List V)) (c : Nat) (ins : List Nat) (N : Nat) : List Oper → Nat → St → List (V × V) → (St → List (V × V) → Prop) → Prop
  | [], _, σ, E, k => k σ E
  | o :: rest, i, σ, E, k => o.guard = none ∧ match memN i ins with
    | true => match o.op with
      | .insert t m x y => σ.ev m = .mp N ∧ (∃ kt et, mapOf P t = some (kt, et) ∧ keyTy P kt (σ.ev x) = true) ∧ evM P G c ins N rest (i + 1) (σ.put o.dst (.tup [])) (E ++ [(σ.ev x, σ.ev y)]) k
      | _ => False
    | false => match Nat.beq i c with
      | true => match o.op with
        | .makeMap _ none => evM P G c ins N rest (i + 1) (σ.put o.dst (.mp N)) E k
        | _ => False
      | false => heapFree o.op = true ∧ evQ P G o σ fun v => evM P G c ins N rest (i + 1) (σ.put o.dst v) E k

def TSM (ops : List Oper) (vals : Nat → V) (σ : St) (j : Nat) : St := stL ops ops.length vals σ fun l => decide (l < j)

def entM (ops : List Oper) (vals : Nat → V) (σ : St) (j : Nat) : V × V :=
  match ops[j]? with
  | some o => match o.op with
    | .insert _ _ x y => ((TSM ops vals σ j).ev x, (TSM ops vals σ j).ev y)
    | _ => (.bad, .bad)
  | none => (.bad, .bad)

def KnowM (P : Program) (G : Nat → Option (List V)) (ops : List Oper) (c : Nat) (ins : List Nat) (N : Nat) (vals : Nat → V) (σ : St) (j : Nat) (o : Oper) : Prop :=
  o.guard = none ∧ match memN j ins with
  | true => ∃ t m x y, o.op = .insert t m x y ∧ (TSM ops vals σ j).ev m = .mp N ∧ (∃ kt et, mapOf P t = some (kt, et) ∧ keyTy P kt ((TSM ops vals σ j).ev x) = true) ∧ vals j = .tup []
  | false => match Nat.beq j c with
    | true => (∃ t, o.op = .makeMap t none) ∧ vals j = .mp N
    | false => heapFree o.op = true ∧ ∀ σ', (∀ x ∈ o.op.operands, σ'.ev x = (TSM ops vals σ j).ev x) → ∀ ro a w e, RSt G σ' a w e →
        OpWp P G ro o σ' a w e fun v' τ => (τ = σ' ∨ (isVCall o = true ∧ τ = σ'.afterCall σ'.H)) ∧ v' = vals j

theorem tsm_congr {ops : List Oper} {vals vals' : Nat → V} {σ : St} {j : Nat} (hv : ∀ l, l < j → vals' l = vals l) : TSM ops vals' σ j = TSM ops vals σ j :=
  stL_congr fun l hl => hv l (by simpa using hl)

theorem knowM_congr {ops : List Oper} {c : Nat} {ins : List Nat} {N : Nat} {vals vals' : Nat → V} {σ : St} {j : Nat} {o : Oper} (hv : ∀ l, l ≤ j → vals' l = vals l) (h : KnowM P G ops c ins N vals σ j o) :
    KnowM P G ops c ins N vals' σ j o := by
  have ht := tsm_congr (ops := ops) (σ := σ) (fun l (hl : l < j) => hv l (by omega))
  unfold KnowM at *
  rw [ht, hv j (Nat.le_refl _)]
  exact h

theorem entM_congr {ops : List Oper} {vals vals' : Nat → V} {σ : St} {j : Nat} (hv : ∀ l, l < j → vals' l = vals l) : entM ops vals' σ j = entM ops vals σ j := by
  unfold entM
  rw [tsm_congr hv]

theorem evM_vals {ops : List Oper} (hok : DrawOk ops ops.length) {c : Nat} {ins : List Nat} {N : Nat} (σ : St) (k : St → List (V × V) → Prop) :
    ∀ (m i : Nat) (vals : Nat → V) (E : List (V × V)), i + m = ops.length → evM P G c ins N (ops.drop i) i (TSM ops vals σ i) E k →
    ∃ vals' : Nat → V, (∀ j, j < i → vals' j = vals j) ∧ (∀ j o, i ≤ j → ops[j]? = some o → KnowM P G ops c ins N vals' σ j o) ∧
      k (TSM ops vals' σ ops.length) (E ++ ((List.range' i m).filter fun j => memN j ins).map (entM ops vals' σ)) := by
  intro m
  induction m with
  | zero =>
    intro i vals E hm h
    obtain rfl : i = ops.length := by omega
    rw [List.drop_length] at h
    refine ⟨vals, fun _ _ => rfl, fun j o h1 h2 => by have := (List.getElem?_eq_some_iff.1 h2).1; omega, ?_⟩
    simp only [evM] at h
    simpa using h
  | succ m ih =>
    intro i vals E hm h
    have hi : i < ops.length := by omega
    have ho : ops[i]? = some ops[i] := List.getElem?_eq_getElem hi
    rw [List.drop_eq_getElem_cons hi] at h
    have hput : ∀ u, (TSM ops vals σ i).put ops[i].dst u = TSM ops (fun j => if j = i then u else vals j) σ (i + 1) := by
      intro u
      have h1 := stL_put hok (fun j => if j = i then u else vals j) σ (fun l => decide (l < i)) hi ho
      simp only [if_true] at h1
      have h2 : stL ops ops.length (fun j => if j = i then u else vals j) σ (fun l => decide (l < i)) = TSM ops vals σ i := tsm_congr fun l hl => by simp [show l ≠ i by omega]
      rw [h2] at h1
      rw [h1]
      unfold TSM
      congr 1
      funext l
      simp only [← Bool.decide_or, decide_eq_decide]
      omega
    have step : ∀ (u : V) (E1 : List (V × V)), KnowM P G ops c ins N (fun j => if j = i then u else vals j) σ i ops[i] → (E1 = E ++ if memN i ins then [entM ops vals σ i] else []) →
        evM P G c ins N (ops.drop (i + 1)) (i + 1) ((TSM ops vals σ i).put ops[i].dst u) E1 k →
        ∃ vals' : Nat → V, (∀ j, j < i → vals' j = vals j) ∧ (∀ j o, i ≤ j → ops[j]? = some o → KnowM P G ops c ins N vals' σ j o) ∧
          k (TSM ops vals' σ ops.length) (E ++ ((List.range' i (m + 1)).filter fun j => memN j ins).map (entM ops vals' σ)) := by
      intro u E1 hK hE hr
      rw [hput] at hr
      obtain ⟨vals', h1, h2, h3⟩ := ih (i + 1) _ E1 (by omega) hr
      have hv : ∀ l, l < i → vals' l = vals l := fun l hl => by
        have := h1 l (by omega)
        simpa [show l ≠ i by omega] using this
      refine ⟨vals', hv, fun j o hj hjo => ?_, ?_⟩
      · by_cases hji : j = i
        · subst hji
          rw [ho] at hjo
          cases hjo
          exact knowM_congr (fun l hl => h1 l (by omega)) hK
        · exact h2 j o (by omega) hjo
      · rw [hE] at h3
        rw [List.range'_succ, List.filter_cons]
        split
        · rename_i hm
          rw [if_pos hm, ← entM_congr hv] at h3
          simpa using h3
        · rename_i hm
          rw [if_neg hm] at h3
          simpa using h3
    simp only [evM] at h
    obtain ⟨hg, h⟩ := h
    have hts : ∀ u, TSM ops (fun j => if j = i then u else vals j) σ i = TSM ops vals σ i := fun u => tsm_congr fun l hl => by simp [show l ≠ i by omega]
    cases hin : memN i ins with
    | true =>
      rw [hin] at h
      simp only at h
      split at h
      · rename_i t m' x y hop
        obtain ⟨h1, h2, h3⟩ := h
        refine step (.tup []) _ ?_ ?_ h3
        · unfold KnowM
          rw [hts, hin]
          exact ⟨hg, t, m', x, y, hop, h1, h2, by simp⟩
        · rw [hin, if_pos rfl]
          unfold entM
          rw [ho]
          simp only [hop]
      · exact h.elim
    | false =>
      rw [hin] at h
      simp only at h
      cases hc : Nat.beq i c with
      | true =>
        rw [hc] at h
        simp only at h
        split at h
        · rename_i t hop
          refine step (.mp N) _ ?_ (by rw [hin]; simp) h
          unfold KnowM
          rw [hts, hin]
          simp only [hc]
          exact ⟨hg, ⟨t, hop⟩, by simp⟩
        · exact h.elim
      | false =>
        rw [hc] at h
        simp only at h
        obtain ⟨hf, h⟩ := h
        obtain ⟨u, h1, h2⟩ := evQ_ex h
        refine step u _ ?_ (by rw [hin]; simp) h1
        unfold KnowM
        rw [hts, hin]
        simp only [hc]
        refine ⟨hg, hf, fun σ' hx ro a w e hst => ?_⟩
        have := h2 σ' ⟨.inl hf, hx⟩ ro a w e hst
        simpa using this

def keyNe (a b : V) : Bool := match keyEq a b, keyEq b a with
  | some false, some false => true
  | _, _ => false
def keysOk : List (V × V) → Bool
  | [] => true
  | x :: xs => xs.all (fun y => keyNe x.1 y.1) && keysOk xs

theorem keyNe_spec {a b : V} (h : keyNe a b = true) : keyEq a b = some false ∧ keyEq b a = some false := by
  unfold keyNe at h
  split at h
  · rename_i h1 h2; exact ⟨h1, h2⟩
  · cases h

theorem keysOk_spec (f : Nat → V × V) : ∀ (is : List Nat), keysOk (is.map f) = true → ∀ i ∈ is, ∀ j ∈ is, i ≠ j → keyEq (f i).1 (f j).1 = some false := by
  intro is
  induction is with
  | nil => intro _ i hi; cases hi
  | cons a is ih =>
    intro h i hi j hj hne
    simp only [List.map_cons, keysOk, Bool.and_eq_true, List.all_eq_true] at h
    obtain ⟨h1, h2⟩ := h
    rcases List.mem_cons.1 hi with hia | hi
    · rcases List.mem_cons.1 hj with hja | hj
      · exact absurd (hia.trans hja.symm) hne
      · rw [hia]; exact (keyNe_spec (h1 _ (List.mem_map_of_mem hj))).1
    · rcases List.mem_cons.1 hj with hja | hj
      · rw [hja]; exact (keyNe_spec (h1 _ (List.mem_map_of_mem hi))).2
      · exact ih h2 i hi j hj hne

theorem evFind_none {k : V} {K : Option (Nat × V) → Prop} (hK : K none) : ∀ (es : List (V × V)) (i : Nat), (∀ x ∈ es, keyEq k x.1 = some false) → evFind k K es i := by
  intro es
  induction es with
  | nil => intro i _; exact hK
  | cons x es ih =>
    intro i h
    simp only [evFind, h x (by simp)]
    exact ⟨fun hb => (by cases hb), fun _ => ih _ fun y hy => h y (by simp [hy])⟩

theorem demote_false (v : V) : V.demote (fun _ => false) v = v := by
  cases v with
  | dat es rows fl => cases fl <;> simp [V.demote]
  | _ => rfl

def HM (σ : St) (c : Nat) (ent : Nat → V × V) (js : List Nat) (L : Nat → Bool) : Heap := if L c then σ.H ++ [some (.map (js.map ent) js.length)] else σ.H

def okM (ops : List Oper) (c : Nat) (ins : List Nat) : Bool :=
  Nat.blt c ops.length && !memN c ins && (!ops.any isVCall) && ins.all fun i => Nat.blt i ops.length && ((masksG (ops.map Bnd) []).getD i 0).testBit c

theorem wpc_drawM {id : Nat} {ops : Array Oper} {Φ : Exit → St → Prop} {σ : St} (c : Nat) (ins : List Nat) (hm : P.follows .mixedOrders = true) (hok : drawOk ops.toList ops.toList.length = true) (hc : okM ops.toList c ins = true)
    (h : evM P G c ins σ.H.length ops.toList 0 σ [] fun σ' E => keysOk E = true ∧ ∀ es : List (V × V), es.Perm E → Φ .normal { σ' with H := σ'.H ++ [some (.map es es.length)] }) : WPc P G (.region id ops true) Φ σ := by
  have hok2 := drawOk_spec hok
  refine wpc_drawR hm hok fun w0 a0 e0 hst0 a e hst hx => ?_
  simp only [okM, Bool.and_eq_true, Bool.not_eq_true', Nat.blt_eq, List.all_eq_true] at hc
  obtain ⟨⟨⟨hcl, hcn⟩, hnv⟩, hins⟩ := hc
  have hdq : ∀ H, dq ops.toList H = fun _ => false := fun H => by unfold dq; rw [hnv]
  have hid : σ.tmps.map (V.demote (dq ops.toList σ.H)) = σ.tmps := by
    rw [hdq]
    conv => rhs; rw [← List.map_id σ.tmps]
    exact List.map_congr_left fun v _ => demote_false v
  rw [hid] at hst
  have h0 : ∀ vals, TSM ops.toList vals σ 0 = σ := fun vals => by
    refine st_ext rfl rfl rfl fun t => ?_
    unfold TSM
    rw [stL_get]
    cases σ.tmps[t]? with
    | none => rfl
    | some v => cases own ops.toList ops.toList.length t <;> simp
  obtain ⟨vals, _, hK, hk⟩ := evM_vals hok2 σ _ ops.toList.length 0 (fun _ => .bad) [] (by omega) (by rw [h0]; exact h)
  obtain ⟨hkeys, hfin⟩ := hk
  rw [List.nil_append] at hkeys hfin
  generalize hent : entM ops.toList vals σ = ent at hkeys hfin
  have hmem : ∀ j, j ∈ ((List.range' 0 ops.toList.length).filter fun j => memN j ins) ↔ j < ops.toList.length ∧ memN j ins = true := fun j => by
    rw [List.mem_filter, List.mem_range']
    constructor
    · rintro ⟨⟨i, hi, rfl⟩, h⟩
      exact ⟨by omega, h⟩
    · rintro ⟨h1, h2⟩
      exact ⟨⟨j, h1, by omega⟩, h2⟩
  have hne := keysOk_spec ent _ hkeys
  have hev : ∀ (vals : Nat → V) (H : Heap) (L : Nat → Bool) (x : Operand), (stL ops.toList ops.toList.length vals { σ with H := H } L).ev x = (stL ops.toList ops.toList.length vals σ L).ev x := fun vals H L x => by cases x <;> rfl
  refine ⟨fun L a w => ∃ js e', js.Nodup ∧ (∀ j, j ∈ js ↔ (j < ops.toList.length ∧ memN j ins = true) ∧ L j = true) ∧
      RSt G (stL ops.toList ops.toList.length vals { σ with H := HM σ c ent js L } L) a w e' ∧ Ext σ.H w0 e0 (HM σ c ent js L) w e', ?_, ?_, ?_⟩
  · refine ⟨[], e, List.nodup_nil, fun j => by simp, ?_, by simpa [HM] using hx⟩
    have : stL ops.toList ops.toList.length vals { σ with H := HM σ c ent [] fun _ => false } (fun _ => false) = σ := by
      refine st_ext (by simp [HM, stL]) rfl rfl fun t => ?_
      rw [stL_get]
      show Option.map _ σ.tmps[t]? = _
      cases σ.tmps[t]? with
      | none => rfl
      | some v => cases own ops.toList ops.toList.length t <;> simp
    rw [this]
    exact hst
  · rintro L i o a w hcl2 hi ho hb hL ⟨js, e', hnd, hjs, hst', hx'⟩ Q next hn
    have hag := agree_stL hok2 vals { σ with H := HM σ c ent js L } L hcl2 hi ho hb hL
    have hops : ∀ x ∈ o.op.operands, (stL ops.toList ops.toList.length vals { σ with H := HM σ c ent js L } L).ev x = (TSM ops.toList vals σ i).ev x := fun x hx => by
      rw [hag.agree.2 x hx, hev]; rfl
    obtain ⟨hg, hKi⟩ := hK i o (Nat.zero_le _) ho
    have hnvi : isVCall o = false := by
      rw [List.any_eq_false] at hnv
      simpa using hnv o (List.mem_of_getElem? ho)
    -- one step
    have fin : ∀ (js' : List Nat) (K : V → St → Prop), OpWp P G (σ.cur.map e0.ρ) o (stL ops.toList ops.toList.length vals { σ with H := HM σ c ent js L } L) a w e' K → js'.Nodup →
        (∀ j, j ∈ js' ↔ (j < ops.toList.length ∧ memN j ins = true) ∧ (L j || decide (j = i)) = true) →
        (∀ v τ, K v τ → v = vals i ∧ τ = stL ops.toList ops.toList.length vals { σ with H := HM σ c ent js' fun j => L j || decide (j = i) } L) → wpOpIn (FW (σ.cur.map e0.ρ)) 0 P ops.toList.toArray Q i next a w := by
      intro js' K hop hnd' hjs' hKK
      unfold wpOpIn
      simp only [List.getElem?_toArray, ho]
      rw [want_run (b := true) hst' (by unfold Want; rw [hg]), if_pos rfl]
      refine hop _ _ fun u w' v τ e2 hkv hcur hst2 hv2 hx2 => ?_
      obtain ⟨rfl, rfl⟩ := hKK v τ hkv
      refine hn _ _ ⟨js', e2, hnd', hjs', ?_, hx'.trans hx2⟩
      have := hst2.put o.dst hv2
      rwa [stL_put hok2 vals _ _ hi ho] at this
    cases hin : memN i ins with
    | true =>
      rw [hin] at hKi
      obtain ⟨t, m, x, y, hop, h1, ⟨kt, et, hmo, hkt⟩, hvi⟩ := hKi
      have hLc : L c = true := closed_mask hok2.up hcl2 i o ho hb c (hins i (memN_iff.1 hin)).2
      have hic : i ≠ c := fun h => by subst h; rw [hin] at hcn; cases hcn
      have hij : i ∉ js := fun h => by have := ((hjs i).1 h).2; rw [hL] at this; cases this
      have hxi : ent i = ((TSM ops.toList vals σ i).ev x, (TSM ops.toList vals σ i).ev y) := by
        rw [← hent]
        unfold entM
        rw [ho]
        simp only [hop]
      refine fin (js ++ [i]) (fun v τ => v = .tup [] ∧ τ = stL ops.toList ops.toList.length vals { σ with H := HM σ c ent (js ++ [i]) fun j => L j || decide (j = i) } L) (evOp_sound hst' ?_) ?_ ?_ ?_
      · unfold evOp
        simp only [hop]
        rw [hops m (by simp [hop, Op.operands]), hops x (by simp [hop, Op.operands]), hops y (by simp [hop, Op.operands]), h1]
        have hH : (stL ops.toList ops.toList.length vals { σ with H := HM σ c ent js L } L).H = σ.H ++ [some (.map (js.map ent) js.length)] := by
          show HM σ c ent js L = _
          unfold HM
          rw [if_pos hLc]
        simp only [evInsert]
        rw [hH, List.getElem?_append_right (Nat.le_refl _), Nat.sub_self, hmo]
        simp only [List.getElem?_cons_zero]
        refine ⟨hkt, evFind_none ?_ _ _ fun z hz => ?_⟩
        · refine ⟨trivial, ?_⟩
          refine st_ext ?_ rfl rfl fun t => rfl
          show (σ.H ++ _).set σ.H.length _ = HM σ c ent (js ++ [i]) fun j => L j || decide (j = i)
          unfold HM
          simp only [hLc, Bool.true_or, if_true]
          rw [List.set_append_right _ _ (Nat.le_refl _), Nat.sub_self]
          simp [hxi]
        · obtain ⟨j, hj, rfl⟩ := List.mem_map.1 hz
          have := hne i ((hmem i).2 ⟨hi, hin⟩) j ((hmem j).2 ((hjs j).1 hj).1) fun h => hij (h ▸ hj)
          rw [hxi] at this
          exact this
      · rw [List.nodup_append]
        refine ⟨hnd, by simp, fun a ha b hb => ?_⟩
        rw [List.mem_singleton] at hb
        subst hb
        intro h; subst h; exact hij ha
      · intro j
        rw [List.mem_append, hjs, List.mem_singleton, Bool.or_eq_true, decide_eq_true_eq]
        constructor
        · rintro (⟨h1, h2⟩ | rfl)
          · exact ⟨h1, .inl h2⟩
          · exact ⟨⟨hi, hin⟩, .inr rfl⟩
        · rintro ⟨h1, h2 | h2⟩
          · exact .inl ⟨h1, h2⟩
          · exact .inr h2
      · rintro v τ ⟨rfl, rfl⟩
        exact ⟨hvi.symm, rfl⟩
    | false =>
      rw [hin] at hKi
      have hjs' : ∀ j, j ∈ js ↔ (j < ops.toList.length ∧ memN j ins = true) ∧ (L j || decide (j = i)) = true := fun j => by
        rw [hjs, Bool.or_eq_true, decide_eq_true_eq]
        constructor
        · rintro ⟨h1, h2⟩; exact ⟨h1, .inl h2⟩
        · rintro ⟨h1, h2 | rfl⟩
          · exact ⟨h1, h2⟩
          · rw [hin] at h1; cases h1.2
      cases hci : Nat.beq i c with
      | true =>
        simp only [hci] at hKi
        obtain rfl := Nat.eq_of_beq_eq_true hci
        obtain ⟨⟨t, hop⟩, hvi⟩ := hKi
        have hjn : js = [] := by
          rw [List.eq_nil_iff_forall_not_mem]
          intro j hj
          obtain ⟨⟨h1, h2⟩, h3⟩ := (hjs j).1 hj
          have := closed_mask hok2.up hcl2 j _ (List.getElem?_eq_getElem h1) (fun e he => hcl2 j _ (List.getElem?_eq_getElem h1) h3 e he) i (hins j (memN_iff.1 h2)).2
          rw [hL] at this; cases this
        subst hjn
        refine fin [] (fun v τ => v = .mp σ.H.length ∧ τ = stL ops.toList ops.toList.length vals { σ with H := HM σ i ent [] fun j => L j || decide (j = i) } L) (evOp_sound hst' ?_) hnd hjs' ?_
        · unfold evOp
          simp only [hop]
          have hH : (stL ops.toList ops.toList.length vals { σ with H := HM σ i ent [] L } L).H = σ.H := by
            show HM σ i ent [] L = _
            unfold HM
            rw [hL]; rfl
          rw [hH]
          refine ⟨rfl, ?_⟩
          refine st_ext ?_ rfl rfl fun t => rfl
          show σ.H ++ _ = HM σ i ent [] fun j => L j || decide (j = i)
          unfold HM
          simp
        · rintro v τ ⟨rfl, rfl⟩
          exact ⟨hvi.symm, rfl⟩
      | false =>
        simp only [hci] at hKi
        obtain ⟨hf, hq⟩ := hKi
        have hic : ¬ c = i := fun h => by subst h; simp at hci
        have hHM : HM σ c ent js (fun j => L j || decide (j = i)) = HM σ c ent js L := by
          unfold HM
          simp [hic]
        refine fin js _ (hq _ hops _ a w e' hst') hnd hjs' fun v τ hh => ?_
        obtain ⟨hh1, hh2⟩ := hh
        rw [hHM]
        refine ⟨hh2, ?_⟩
        rcases hh1 with hh1 | ⟨hh1, _⟩
        · exact hh1
        · rw [hnvi] at hh1; cases hh1
  · rintro L a w hall ⟨js, e', hnd, hjs, hst', hx'⟩
    have hLc := hall c hcl
    have hperm : js.Perm ((List.range' 0 ops.toList.length).filter fun j => memN j ins) := by
      refine (List.perm_ext_iff_of_nodup hnd ?_).2 fun j => ?_
      · exact (List.nodup_range' 1).filter _
      · rw [hmem, hjs]
        constructor
        · exact fun h => h.1
        · exact fun h => ⟨h, hall j h.1⟩
    have hes := hfin (js.map ent) (hperm.map ent)
    refine ⟨_, e', hes, rfl, ?_, ?_⟩
    · have : stL ops.toList ops.toList.length vals { σ with H := HM σ c ent js L } L = { TSM ops.toList vals σ ops.toList.length with H := (TSM ops.toList vals σ ops.toList.length).H ++ [some (.map (js.map ent) (js.map ent).length)] } := by
        refine st_ext ?_ rfl rfl fun t => ?_
        · show HM σ c ent js L = σ.H ++ _
          unfold HM
          rw [if_pos hLc, List.length_map]
        · show (stL _ _ _ _ _).tmps[t]? = (stL _ _ _ _ _).tmps[t]?
          rw [stL_get, stL_get]
          congr 1
          funext v
          cases hw : own ops.toList ops.toList.length t with
          | none => rfl
          | some j =>
            obtain ⟨hj, _⟩ := own_some hw
            simp [hall j hj]
            intro h
            have h9 : j < ops.toList.length := hj
            rw [Array.length_toList] at h9
            omega
      rw [this] at hst'
      exact hst'
    · have : HM σ c ent js L = σ.H ++ [some (.map (js.map ent) (js.map ent).length)] := by
        unfold HM
        rw [if_pos hLc, List.length_map]
      rw [this] at hx'
      exact hx'

/-! ### the same, for reduction -/
def isTmpM (m : Operand) (d : Nat) : Bool := match m with
  | .tmp t => Nat.beq t d
  | _ => false
def keyOkM (P : Program) (t : TypeId) (x : V) : Bool := match mapOf P t with
  | some (kt, _) => keyTy P kt x
  | none => false

/-- d: the temporary of the map. -/
noncomputable def evM2 (P : Program) (G : Nat → Option (List V)) (c : Nat) (ins : List Nat) (N d : Nat) (l : List Oper) : Nat → S2 → List (V × V) → (S2 → List (V × V) → Prop) → Prop :=
  List.rec (motive := fun _ => Nat → S2 → List (V × V) → (S2 → List (V × V) → Prop) → Prop) (fun _ s E k => k s E) (fun o _ ih i s E k =>
    match o.guard with
    | some _ => False
    | none => match memN i ins with
      | true => match o.op with
        | .insert t m x y => grd (Nat.blt c i && isTmpM m d && !dstIs o.dst d) (force (s.ev x) fun x => force (s.ev y) fun y => grd (keyOkM P t x) (put2 s o.dst (.tup []) fun s' => ih (i + 1) s' (E ++ [(x, y)]) k))
        | _ => False
      | false => match Nat.beq i c with
        | true => match o.op with
          | .makeMap _ none => grd (dstIs o.dst d) (put2 s o.dst (.mp N) fun s' => ih (i + 1) s' E k)
          | _ => False
        | false => grd (heapFree o.op && !dstIs o.dst d) (evQ2 P G o s fun v => put2 s o.dst v fun s' => ih (i + 1) s' E k)) l

theorem evM2_cons (c : Nat) (ins : List Nat) (N d : Nat) (o : Oper) (rest : List Oper) (i : Nat) (s : S2) (E : List (V × V)) (k : S2 → List (V × V) → Prop) : evM2 P G c ins N d (o :: rest) i s E k =
    match o.guard with
    | some _ => False
    | none => match memN i ins with
      | true => match o.op with
        | .insert t m x y => grd (Nat.blt c i && isTmpM m d && !dstIs o.dst d) (force (s.ev x) fun x => force (s.ev y) fun y => grd (keyOkM P t x) (put2 s o.dst (.tup []) fun s' => evM2 P G c ins N d rest (i + 1) s' (E ++ [(x, y)]) k))
        | _ => False
      | false => match Nat.beq i c with
        | true => match o.op with
          | .makeMap _ none => grd (dstIs o.dst d) (put2 s o.dst (.mp N) fun s' => evM2 P G c ins N d rest (i + 1) s' E k)
          | _ => False
        | false => grd (heapFree o.op && !dstIs o.dst d) (evQ2 P G o s fun v => put2 s o.dst v fun s' => evM2 P G c ins N d rest (i + 1) s' E k) := rfl

theorem put2_look {s : S2} {t : Option Tmp} {v : V} {d : Nat} {k : S2 → Prop} (h : put2 s t v k) : put2 s t v fun s' => k s' ∧ look s'.upd s'.base d = match dstIs t d with | true => v | false => look s.upd s.base d := by
  cases t with
  | none =>
    cases s; exact ⟨h, rfl⟩
  | some t =>
    have h : grd (Nat.blt t s.n) (k { s with upd := (t, v) :: s.upd }) := by cases s; exact h
    have h2 : grd (Nat.blt t s.n) (k { s with upd := (t, v) :: s.upd } ∧ look ((t, v) :: s.upd) s.base d = match dstIs (some t) d with | true => v | false => look s.upd s.base d) := by
      rw [grd_iff] at h ⊢
      exact ⟨h.1, h.2, rfl⟩
    cases s; exact h2

theorem evM2_imp {c : Nat} {ins : List Nat} {N d : Nat} {k : S2 → List (V × V) → Prop} {K : St → List (V × V) → Prop} (n : Nat) (hK : ∀ (s' : S2) E, s'.Wf → s'.n = n → k s' E → K s'.st E) :
    ∀ (rest : List Oper) (i : Nat) (s : S2) (E : List (V × V)), s.Wf → s.n = n → (c < i → look s.upd s.base d = .mp N) → evM2 P G c ins N d rest i s E k → evM P G c ins N rest i s.st E K := by
  intro rest
  induction rest with
  | nil => intro i s E hw hn hl h; exact hK s E hw hn h
  | cons o rest ih =>
    intro i s E hw hn hl h
    rw [evM2_cons] at h
    simp only [evM]
    have hev : ∀ x, s.st.ev x = s.ev x := fun x => S2.ev_eq hw x
    have go : ∀ v E', put2 s o.dst v (fun s' => evM2 P G c ins N d rest (i + 1) s' E' k) → (c < i + 1 → (match dstIs o.dst d with | true => v | false => look s.upd s.base d) = .mp N) → evM P G c ins N rest (i + 1) (s.st.put o.dst v) E' K := by
      intro v E' h hl2
      obtain ⟨s'', h1, h2, h3, h4, h5⟩ := put2_imp hw (put2_look (d := d) h)
      rw [← h1]
      exact ih (i + 1) s'' _ h2 (h3.trans hn) (fun hc => h5.trans (hl2 hc)) h4
    cases hg : o.guard with
    | some g => rw [hg] at h; exact h.elim
    | none =>
      rw [hg] at h
      refine ⟨rfl, ?_⟩
      cases hin : memN i ins with
      | true =>
        rw [hin] at h
        try simp only at h ⊢
        split at h
        · rename_i t m x y hop
          skip -- [hop]
          rw [grd_iff] at h
          obtain ⟨h1, h⟩ := h
          simp only [Bool.and_eq_true, Nat.blt_eq, Bool.not_eq_true'] at h1
          obtain ⟨⟨h1, h0⟩, hnd⟩ := h1
          simp only [force_iff] at h
          rw [grd_iff] at h
          obtain ⟨h2, h3⟩ := h
          rw [hev, hev, hev]
          refine ⟨?_, ?_, go _ _ h3 fun _ => by rw [hnd]; exact hl h1⟩
          · unfold isTmpM at h0
            split at h0
            · rename_i t'
              rw [Nat.eq_of_beq_eq_true h0]
              exact hl h1
            · cases h0
          · unfold keyOkM at h2
            split at h2
            · rename_i kt et hmo
              exact ⟨kt, et, hmo, h2⟩
            · cases h2
        · exact h.elim
      | false =>
        rw [hin] at h
        try simp only at h ⊢
        cases hc : Nat.beq i c with
        | true =>
          rw [hc] at h
          try simp only at h ⊢
          split at h
          · rename_i t hop
            skip -- [hop]
            rw [grd_iff] at h
            exact go _ _ h.2 fun _ => by rw [h.1]
          · exact h.elim
        | false =>
          rw [hc] at h
          try simp only at h ⊢
          rw [grd_iff] at h
          obtain ⟨h1, h⟩ := h
          simp only [Bool.and_eq_true, Bool.not_eq_true'] at h1
          refine ⟨h1.1, evQ_mono (fun v hv => go _ _ hv fun hci => ?_) (evQ2_imp hw h)⟩
          rw [h1.2]
          refine hl ?_
          have : i ≠ c := fun h => by subst h; simp at hc
          omega

/-- A map literal: c: the operation that makes the map; d: its temporary; ins: those that lay its entries, in any order. -/
theorem wpc_drawM2 {id : Nat} {ops : Array Oper} {Φ : Exit → S2 → Prop} {s : S2} (c d : Nat) (ins : List Nat) (hm : P.follows .mixedOrders = true) (hok : drawOk ops.toList ops.toList.length = true)
    (hc : okM ops.toList c ins = true) (hw : s.Wf)
    (h : evM2 P G c ins s.H.length d ops.toList 0 s [] fun s' E => grd (keysOk E) (∀ es : List (V × V), es.Perm E → Φ .normal (s'.setH (s'.H ++ [some (.map es es.length)])))) : WPc P G (.region id ops true) (toΦ s.n Φ) s.st := by
  refine wpc_drawM c ins hm hok hc ?_
  exact evM2_imp s.n (fun s' E hw' hn' h' => by
    rw [grd_iff] at h'
    refine ⟨h'.1, fun es hes => ⟨s'.setH (s'.H ++ [some (.map es es.length)]), ?_, ?_, ?_, h'.2 es hes⟩⟩
    · rw [S2.setH_eq]; rfl
    · rw [S2.setH_eq]; exact ⟨hw'.n, hw'.d⟩
    · rw [S2.setH_eq]; exact hn') _ _ _ _ hw rfl (fun h => by omega) h

/-! ### looking up where the entries' order is not known -/
theorem find_any' {key : V} {K : Option (Nat × V) → Prop} : ∀ (es : List (V × V)) (i : Nat), (∀ x ∈ es, ∃ b, keyEq key x.1 = some b ∧ (b = true → ∀ n : Nat, K (some (n, x.2)))) →
    ((∀ x ∈ es, keyEq key x.1 = some false) → K none) → evFind2 key K es i := by
  intro es
  induction es with
  | nil => intro i _ h; exact h (by simp)
  | cons x es ih =>
    intro i h hn
    obtain ⟨b, hb, hK⟩ := h x (by simp)
    simp only [evFind2, hb]
    rw [br_iff]
    refine ⟨fun h => hK h i, fun h1 => ih _ (fun y hy => h y (by simp [hy])) fun h2 => hn fun y hy => ?_⟩
    subst h1
    rcases List.mem_cons.1 hy with rfl | hy
    · exact hb
    · exact h2 y hy

/-- The entries lie in some order. -/
theorem find_any {key : V} {K : Option (Nat × V) → Prop} {es E : List (V × V)} (hp : es.Perm E) (h : ∀ x ∈ E, ∃ b, keyEq key x.1 = some b ∧ (b = true → ∀ n : Nat, K (some (n, x.2))))
    (hn : (∀ x ∈ E, keyEq key x.1 = some false) → K none) : evFind2 key K es 0 :=
  find_any' es 0 (fun x hx => h x (hp.mem_iff.1 hx)) fun h1 => hn fun x hx => h1 x (hp.mem_iff.2 hx)

end Go.Abs

/-! DrawP -/
/- Regions that draw their order, in which two new blocks are laid, whichever first. -/
namespace Go.Abs
open Go.RowKit
set_option linter.unusedVariables false
set_option linter.unusedSimpArgs false

variable {P : Program} {G : Nat → Option (List V)}

/-- What is asked of such a region: quiet operations ahead of the place p; p and p + 1 lay blocks; the others wait for these and for each other. -/
def okP (ops : List Oper) (p : Nat) (eff : List Nat) : Bool :=
  let ms := masksG (ops.map Bnd) []
  Nat.ble (p + 2) ops.length && (eff.all fun c => Nat.ble (p + 2) c && Nat.blt c ops.length) &&
  ((List.range ops.length).all fun j => Nat.blt j (p + 2) || ((ms.getD j 0).testBit p && (ms.getD j 0).testBit (p + 1) && (List.range j).all fun l => Nat.blt l (p + 2) || (ms.getD j 0).testBit l)) &&
  ((List.range p).all fun j => match ops[j]? with
    | none => true
    | some o => heapFree o.op || eff.all fun c => (ms.getD c 0).testBit j)

structure OkP (ops : List Oper) (p : Nat) (eff : List Nat) : Prop where
  len : p + 2 ≤ ops.length
  ef : ∀ c, memN c eff = true → p + 2 ≤ c ∧ c < ops.length
  tl : ∀ j, p + 2 ≤ j → j < ops.length → ((masksG (ops.map Bnd) []).getD j 0).testBit p = true ∧ ((masksG (ops.map Bnd) []).getD j 0).testBit (p + 1) = true ∧
    ∀ l, p + 2 ≤ l → l < j → ((masksG (ops.map Bnd) []).getD j 0).testBit l = true
  hd : ∀ j o, j < p → ops[j]? = some o → heapFree o.op = true ∨ ∀ c, memN c eff = true → ((masksG (ops.map Bnd) []).getD c 0).testBit j = true

theorem okP_spec {ops : List Oper} {p : Nat} {eff : List Nat} (h : okP ops p eff = true) : OkP ops p eff := by
  unfold okP at h
  simp only [Bool.and_eq_true, List.all_eq_true, Nat.ble_eq, Nat.blt_eq] at h
  obtain ⟨⟨⟨h1, h2⟩, h3⟩, h4⟩ := h
  refine ⟨h1, fun c hc => h2 c (memN_iff.1 hc), fun j hj hjl => ?_, fun j o hj ho => ?_⟩
  · have := h3 j (List.mem_range.2 hjl)
    simp only [Bool.or_eq_true, Nat.blt_eq, Bool.and_eq_true, List.all_eq_true] at this
    rcases this with h | ⟨⟨ha, hb⟩, hc⟩
    · omega
    · refine ⟨ha, hb, fun l hl hlj => ?_⟩
      rcases hc l (List.mem_range.2 hlj) with h | h
      · omega
      · exact h
  · have := h4 j (List.mem_range.2 hj)
    rw [ho] at this
    simp only [Bool.or_eq_true, List.all_eq_true] at this
    rcases this with h | h
    · exact .inl h
    · exact .inr fun c hc => h c (memN_iff.1 hc)

/-- The two blocks, in the order in which they come. -/
def XP (A B : Option Blk) (ord : Bool) : Heap := if ord then [A, B] else [B, A]
def valP (vals : Nat → V) (p n : Nat) (ord : Bool) : Nat → V := fun j => if j = p then .ptr (if ord then n else n + 1) 0 else if j = p + 1 then .ptr (if ord then n + 1 else n) 0 else vals j
def HP (H : Heap) (A B : Option Blk) (ops : List Oper) (p : Nat) (eff : List Nat) (Hs : Nat → Heap) (L : Nat → Bool) : Heap :=
  match L p, L (p + 1) with
  | true, true => Hs (cntG ops eff L)
  | true, false => H ++ [A]
  | false, true => H ++ [B]
  | false, false => H

theorem wpc_drawP {id : Nat} {ops : Array Oper} {Φ : Exit → St → Prop} {σ : St} (p : Nat) (eff fx : List Nat) (o1 o2 : Oper) (t1 t2 : TypeId) (cs1 cs2 : List V) (hm : P.follows .mixedOrders = true)
    (hok : drawOk ops.toList ops.toList.length = true) (hokp : okP ops.toList p eff = true)
    (ho1 : ops.toList[p]? = some o1) (ho2 : ops.toList[p + 1]? = some o2) (hg1 : o1.guard = none) (hg2 : o2.guard = none) (hop1 : o1.op = .alloc t1) (hop2 : o2.op = .alloc t2)
    (hz1 : zeroOf P t1 = some cs1) (hz2 : zeroOf P t2 = some cs2) (hc1 : (cs1.all fun v => !v.isCls) = true) (hc2 : (cs2.all fun v => !v.isCls) = true)
    (h : evQs P G ops.toList (ops.toList.take p) { σ with tmps := σ.tmps.map (V.demote (dq ops.toList σ.H)) } fun σ1 => ∀ ord,
      evG P G ops.toList eff fx (ops.toList.drop (p + 2)) (p + 2)
        ((({ σ1 with H := σ1.H ++ XP (some (.cells t1 cs1)) (some (.cells t2 cs2)) ord } : St).put o1.dst (.ptr (if ord then σ1.H.length else σ1.H.length + 1) 0)).put o2.dst (.ptr (if ord then σ1.H.length + 1 else σ1.H.length) 0)) [] []
        fun σ' _ _ => Φ .normal σ') : WPc P G (.region id ops true) Φ σ := by
  have hok2 := drawOk_spec hok
  have hp := okP_spec hokp
  generalize hops : ops.toList = l at *
  obtain ⟨hplen, hpeff, hptl, hphd⟩ := hp
  have hA0 : ∀ k, heapCls [some (.cells t1 cs1)] k = false := fun k => by
    show ((cs1.any (V.hasCls k)) || false) = false
    rw [noCls_any hc1 k]; rfl
  have hB0 : ∀ k, heapCls [some (.cells t2 cs2)] k = false := fun k => by
    show ((cs2.any (V.hasCls k)) || false) = false
    rw [noCls_any hc2 k]; rfl
  have hX0 : ∀ ord k, heapCls (XP (some (.cells t1 cs1)) (some (.cells t2 cs2)) ord) k = false := fun ord k => by
    have h1 := hA0 k
    have h2 := hB0 k
    cases ord
    · show heapCls ([some (.cells t2 cs2)] ++ [some (.cells t1 cs1)]) k = false
      unfold heapCls at *
      rw [List.any_append, h1, h2]; rfl
    · show heapCls ([some (.cells t1 cs1)] ++ [some (.cells t2 cs2)]) k = false
      unfold heapCls at *
      rw [List.any_append, h1, h2]; rfl
  generalize hAe : (some (Blk.cells t1 cs1) : Option Blk) = A at *
  generalize hBe : (some (Blk.cells t2 cs2) : Option Blk) = B at *
  let σ1 : St := { σ with tmps := σ.tmps.map (V.demote (dq l σ.H)) }
  have h0 : ∀ vals b, stL l l.length vals b (fun j => decide (j < 0)) = b := fun vals b => by
    refine st_ext rfl rfl rfl fun t => ?_
    rw [stL_get]
    cases b.tmps[t]? with
    | none => rfl
    | some v => cases own l l.length t <;> simp
  obtain ⟨vals, _, hv, hk⟩ := evQs_vals hok2 (Nat.le_refl _) (n := p) (by omega) σ1 _ p 0 (fun _ => .bad) (by omega) (by rw [h0, List.drop_zero]; exact h)
  have hr0 : rankG eff (p + 2) = 0 := by
    unfold rankG
    rw [List.countP_eq_zero]
    intro c hc
    have h1 := List.mem_range.1 hc
    cases he : memN c eff with
    | false => simp
    | true => have := (hpeff c he).1; omega
  have hput : ∀ ord, ((({ (stL l l.length vals σ1 fun j => decide (j < p)) with H := (stL l l.length vals σ1 fun j => decide (j < p)).H ++ XP A B ord } : St).put o1.dst (.ptr (if ord then (stL l l.length vals σ1 fun j => decide (j < p)).H.length else (stL l l.length vals σ1 fun j => decide (j < p)).H.length + 1) 0)).put o2.dst
      (.ptr (if ord then (stL l l.length vals σ1 fun j => decide (j < p)).H.length + 1 else (stL l l.length vals σ1 fun j => decide (j < p)).H.length) 0)) =
      TSG l eff (valP vals p σ.H.length ord) (fun _ => σ.H ++ XP A B ord) { σ1 with H := σ.H ++ XP A B ord } (p + 2) := by
    intro ord
    have e1 : ({ (stL l l.length vals σ1 fun j => decide (j < p)) with H := (stL l l.length vals σ1 fun j => decide (j < p)).H ++ XP A B ord } : St) = stL l l.length (valP vals p σ.H.length ord) { σ1 with H := σ.H ++ XP A B ord } fun j => decide (j < p) :=
      stL_congr (σ := { σ1 with H := σ.H ++ XP A B ord }) fun j hj => by
        have hj : j < p := of_decide_eq_true hj
        unfold valP
        rw [if_neg (by omega), if_neg (by omega)]
    have e2 : (V.ptr (if ord then σ.H.length else σ.H.length + 1) 0) = valP vals p σ.H.length ord p := by simp [valP]
    have e3 : (V.ptr (if ord then σ.H.length + 1 else σ.H.length) 0) = valP vals p σ.H.length ord (p + 1) := by simp [valP]
    rw [e1]
    show (St.put (St.put _ o1.dst (V.ptr (if ord then σ.H.length else σ.H.length + 1) 0)) o2.dst (V.ptr (if ord then σ.H.length + 1 else σ.H.length) 0)) = _
    rw [e2, e3, stL_put hok2 _ _ _ (by omega) ho1, stL_put hok2 _ _ _ (by omega) ho2]
    unfold TSG
    congr 1
    funext j
    by_cases h1 : j = p
    · subst h1; simp
    · by_cases h2 : j = p + 1
      · subst h2; simp
      · simp only [h1, h2, decide_false, Bool.or_false, decide_eq_decide]
        omega
  have hk2 : ∀ ord, ∃ (vals' : Nat → V) (Hs : Nat → Heap), (∀ j, j < p + 2 → vals' j = valP vals p σ.H.length ord j) ∧ Hs 0 = σ.H ++ XP A B ord ∧
      (∀ j o, p + 2 ≤ j → l[j]? = some o → ∃ T Ao, KnowG P G l eff fx vals' Hs T Ao { σ1 with H := σ.H ++ XP A B ord } j o) ∧ Φ .normal (TSG l eff vals' Hs { σ1 with H := σ.H ++ XP A B ord } l.length) := by
    intro ord
    have h1 := hk ord
    rw [hput ord] at h1
    obtain ⟨vals', Hs, TL, AL, a1, a2, _, a4, a5⟩ := evG_vals hok2 { σ1 with H := σ.H ++ XP A B ord } _ (l.length - (p + 2)) (p + 2) _ _ [] [] (by omega) h1
    exact ⟨vals', Hs, a1, a2 0 (by omega), fun j o hj ho => ⟨_, _, (a4 j o hj ho).1⟩, a5⟩
  have hpick : ∃ (valT : Bool → Nat → V) (Hs : Bool → Nat → Heap), ∀ ord, (∀ j, j < p + 2 → valT ord j = valP vals p σ.H.length ord j) ∧ Hs ord 0 = σ.H ++ XP A B ord ∧
      (∀ j o, p + 2 ≤ j → l[j]? = some o → ∃ T Ao, KnowG P G l eff fx (valT ord) (Hs ord) T Ao { σ1 with H := σ.H ++ XP A B ord } j o) ∧ Φ .normal (TSG l eff (valT ord) (Hs ord) { σ1 with H := σ.H ++ XP A B ord } l.length) := by
    obtain ⟨v1, H1, q1⟩ := hk2 true
    obtain ⟨v2, H2, q2⟩ := hk2 false
    refine ⟨fun ord => if ord then v1 else v2, fun ord => if ord then H1 else H2, fun ord => ?_⟩
    cases ord
    · exact q2
    · exact q1
  clear hk2 hk hput h
  obtain ⟨valT, Hs, hT⟩ := hpick
  have hup := hok2.up
  -- the classes that values may bear
  have hdqT : ∀ ord n, n ≤ rankG eff l.length → dq l (Hs ord n) = dq l σ.H := by
    intro ord n
    induction n with
    | zero => intro _; rw [(hT ord).2.1]; exact dq_app (hX0 ord)
    | succ n ih =>
      intro hn
      obtain ⟨c, hc, he, hr⟩ := rankG_at (eff := eff) l.length n (by omega)
      obtain ⟨T, Ao, this⟩ := (hT ord).2.2.1 c l[c] (hpeff c he).1 (List.getElem?_eq_getElem hc)
      unfold KnowG at this
      rw [he] at this
      rw [← hr, this.2.2.1, hr]
      exact ih (by omega)
  have hcle : ∀ L, cntG l eff L ≤ rankG eff l.length := fun L => by
    unfold cntG rankG
    exact List.countP_mono_left fun j _ h => by
      simp only [Bool.and_eq_true] at h
      exact h.1
  have hdqP : ∀ ord L, dq l (HP σ.H A B l p eff (Hs ord) L) = dq l σ.H := by
    intro ord L
    unfold HP
    split
    · exact hdqT ord _ (hcle L)
    · exact dq_app hA0
    · exact dq_app hB0
    · rfl
  have hdemP : ∀ ord L, (stL l l.length (valT ord) { σ1 with H := HP σ.H A B l p eff (Hs ord) L } L).tmps.map (V.demote (dq l (HP σ.H A B l p eff (Hs ord) L))) = (stL l l.length (valT ord) { σ1 with H := HP σ.H A B l p eff (Hs ord) L } L).tmps := by
    intro ord L
    rw [hdqP]
    refine List.ext_getElem? fun t => ?_
    rw [List.getElem?_map, stL_get]
    show Option.map _ (Option.map _ σ1.tmps[t]?) = Option.map _ σ1.tmps[t]?
    cases hv2 : σ1.tmps[t]? with
    | none => rfl
    | some v =>
      simp only [Option.map_some, Option.some.injEq]
      have hvd : V.demote (dq l σ.H) v = v := by
        have h1 : (σ.tmps.map (V.demote (dq l σ.H)))[t]? = some v := hv2
        rw [List.getElem?_map] at h1
        obtain ⟨v0, _, rfl⟩ := Option.map_eq_some_iff.1 h1
        exact demote_demote _ _
      cases hw : own l l.length t with
      | none => exact hvd
      | some j =>
        obtain ⟨hj, o, ho, _⟩ := own_some hw
        simp only
        split
        · by_cases hj2 : j < p + 2
          · rw [(hT ord).1 j hj2]
            unfold valP
            split
            · rfl
            · split
              · rfl
              · exact (hv j o (by omega) (by omega) ho).1
          · obtain ⟨T, Ao, this⟩ := (hT ord).2.2.1 j o (by omega) ho
            have hr : rankG eff j ≤ rankG eff l.length := rankG_le (by omega)
            unfold KnowG at this
            split at this
            · have h2 := this.2.1
              rw [hdqT ord _ hr] at h2
              exact h2
            · have h2 := this.1
              rw [hdqT ord _ hr] at h2
              exact h2
        · exact hvd
  have hnot2 : ∀ c, memN c eff = true → c ≠ p ∧ c ≠ p + 1 := fun c hc => by have := (hpeff c hc).1; omega
  -- what has not been carried out yet
  have hearly : ∀ {L : Nat → Bool}, Closed l L → (L p = false ∨ L (p + 1) = false) → ∀ j, j < l.length → L j = true → j < p + 2 := by
    intro L hcl hL j hj hLj
    rcases Nat.lt_or_ge j (p + 2) with h1 | h1
    · exact h1
    · exfalso
      obtain ⟨m1, m2, _⟩ := hptl j h1 hj
      have hb : ∀ e ∈ Bnd l[j], L e = true := fun e he => hcl j l[j] (List.getElem?_eq_getElem hj) hLj e he
      have e1 := closed_mask hup hcl j l[j] (List.getElem?_eq_getElem hj) hb p m1
      have e2 := closed_mask hup hcl j l[j] (List.getElem?_eq_getElem hj) hb (p + 1) m2
      rcases hL with h | h
      · rw [h] at e1; cases e1
      · rw [h] at e2; cases e2
  have hcnt0 : ∀ {L : Nat → Bool}, (∀ c, c < l.length → memN c eff = true → L c = false) → cntG l eff L = 0 := by
    intro L hL
    unfold cntG
    rw [List.countP_eq_zero]
    intro c hc
    have h1 := List.mem_range.1 hc
    cases he : memN c eff with
    | false => simp
    | true => simp [hL c h1 he]
  subst hops
  refine wpc_drawR hm hok fun w0 a0 e0 hst0 a e hst hx => ?_
  refine ⟨fun L a w => ∃ ord e', (L p = true → L (p + 1) = false → ord = true) ∧ (L p = false → L (p + 1) = true → ord = false) ∧
      RSt G (stL ops.toList ops.toList.length (valT ord) { σ1 with H := HP σ.H A B ops.toList p eff (Hs ord) L } L) a w e' ∧ Ext σ.H w0 e0 (HP σ.H A B ops.toList p eff (Hs ord) L) w e', ?_, ?_, ?_⟩
  · refine ⟨true, e, fun h => by simp at h, fun _ h => by simp at h, ?_, hx⟩
    have : stL ops.toList ops.toList.length (valT true) { σ1 with H := HP σ.H A B ops.toList p eff (Hs true) fun _ => false } (fun _ => false) = σ1 := by
      refine st_ext rfl rfl rfl fun t => ?_
      rw [stL_get]
      show Option.map _ σ1.tmps[t]? = _
      cases σ1.tmps[t]? with
      | none => rfl
      | some v => cases own ops.toList ops.toList.length t <;> simp
    rw [this]
    exact hst
  · rintro L i o a w hcl hi ho hb hL ⟨ord, e', hord1, hord2, hst', hx'⟩ Q next hn
    have in1 : ∀ c, ((masksG (ops.toList.map Bnd) []).getD i 0).testBit c = true → L c = true := fun c hc => closed_mask hup hcl i o ho hb c hc
    by_cases hip : i < p
    · -- a quiet one
      have hag := agree_stL hok2 (valT ord) { σ1 with H := HP σ.H A B ops.toList p eff (Hs ord) L } L hcl hi ho hb hL
      have hAg : AgreeL ops.toList o (stL ops.toList ops.toList.length vals σ1 fun l => decide (l < i)) (stL ops.toList ops.toList.length (valT ord) { σ1 with H := HP σ.H A B ops.toList p eff (Hs ord) L } L) := by
        refine ⟨?_, fun t ht => ?_⟩
        · rcases hphd i o hip ho with h1 | h1
          · exact .inl h1
          · refine .inr ?_
            show PreH σ.H (HP σ.H A B ops.toList p eff (Hs ord) L)
            unfold HP
            split
            · have : cntG ops.toList eff L = 0 := hcnt0 fun c hc he => by
                cases hLc : L c with
                | false => rfl
                | true =>
                  have := closed_mask hup hcl c _ (List.getElem?_eq_getElem hc) (fun e he => hcl c _ (List.getElem?_eq_getElem hc) hLc e he) i (h1 c he)
                  rw [hL] at this; cases this
              rw [this, (hT ord).2.1]
              exact ⟨_, hX0 ord, rfl⟩
            · exact ⟨_, hA0, rfl⟩
            · exact ⟨_, hB0, rfl⟩
            · exact PreH.rfl'
        · have h2 := hag.2 t ht
          rw [h2, stL_get, stL_get]
          show Option.map _ σ1.tmps[t]? = Option.map _ σ1.tmps[t]?
          congr 1
          funext v
          cases hw : own ops.toList ops.toList.length t with
          | none => rfl
          | some j =>
            simp only
            by_cases hji : j < i
            · simp only [hji, decide_true, if_true]
              rw [(hT ord).1 j (by omega)]
              unfold valP
              rw [if_neg (by omega), if_neg (by omega)]
            · simp [hji]
      have hvi : valT ord i = vals i := by
        rw [(hT ord).1 i (by omega)]
        unfold valP
        rw [if_neg (by omega), if_neg (by omega)]
      have hHP : HP σ.H A B ops.toList p eff (Hs ord) (fun j => L j || decide (j = i)) = HP σ.H A B ops.toList p eff (Hs ord) L := by
        have e1 : (L p || decide (p = i)) = L p := by simp [show p ≠ i by omega]
        have e2 : (L (p + 1) || decide (p + 1 = i)) = L (p + 1) := by simp [show p + 1 ≠ i by omega]
        have e3 : cntG ops.toList eff (fun j => L j || decide (j = i)) = cntG ops.toList eff L := by
          unfold cntG
          refine List.countP_congr fun c hcm => ?_
          by_cases hci : c = i
          · subst hci
            have : memN c eff = false := by
              cases he : memN c eff with
              | false => rfl
              | true => have := (hpeff c he).1; omega
            rw [this]; simp
          · simp [hci]
        unfold HP
        simp only [e1, e2, e3]
      refine qc_run ho (hv i o (by omega) hip ho) hAg hst' (hdemP ord L) fun a' w' e2 hst2 hx2 => hn _ _ ⟨ord, e2, ?_, ?_, ?_, ?_⟩
      · simpa [show p ≠ i by omega, show p + 1 ≠ i by omega] using hord1
      · simpa [show p ≠ i by omega, show p + 1 ≠ i by omega] using hord2
      · rw [hHP]
        rw [← hvi, stL_put hok2 _ _ _ hi ho] at hst2
        exact hst2
      · rw [hHP]; exact hx'.trans hx2
    · have fin : ∀ (ord' : Bool) (K : V → St → Prop) (σ' : St), RSt G σ' a w e' → Want ops.toList o σ' true → OpWp P G (σ.cur.map e0.ρ) o σ' a w e' K → Ext σ.H w0 e0 σ'.H w e' →
          (∀ v τ, K v τ → valT ord' i = V.demote (dq ops.toList σ.H) v ∧ τ = stL ops.toList ops.toList.length (valT ord') { σ1 with H := HP σ.H A B ops.toList p eff (Hs ord') fun j => L j || decide (j = i) } L) →
          ((L p || decide (p = i)) = true → (L (p + 1) || decide (p + 1 = i)) = false → ord' = true) → ((L p || decide (p = i)) = false → (L (p + 1) || decide (p + 1 = i)) = true → ord' = false) →
          wpOpIn (FW (σ.cur.map e0.ρ)) 0 P ops.toList.toArray Q i next a w := by
        intro ord' K σ' hst1 hw hop hxx hKK ho1' ho2'
        unfold wpOpIn
        simp only [List.getElem?_toArray, ho]
        rw [want_run (b := true) hst1 hw, if_pos rfl]
        refine hop _ _ fun u w' v τ e2 hkv hcur hst2 hv2 hx2 => ?_
        obtain ⟨hvd, rfl⟩ := hKK v τ hkv
        refine hn _ _ ⟨ord', e2, ho1', ho2', ?_, hxx.trans hx2⟩
        have := hst2.put o.dst (hv2.demote (dq ops.toList σ.H))
        rwa [← hvd, stL_put hok2 (valT ord') _ _ hi ho] at this
      by_cases hi1 : i = p
      · -- the first of the two
        subst hi1
        rw [ho1] at ho
        cases ho
        have hlow := hearly hcl (.inl hL)
        have hvp : ∀ ord', valT ord' i = .ptr (if ord' then σ.H.length else σ.H.length + 1) 0 := fun ord' => by
          rw [(hT ord').1 i (by omega)]; unfold valP; rw [if_pos rfl]
        have hc0 : cntG ops.toList eff (fun j => L j || decide (j = i)) = 0 := hcnt0 fun c hc he => by
          cases hLc : L c with
          | false => simp [(hnot2 c he).1]
          | true => have := hlow c hc hLc; have := (hpeff c he).1; omega
        cases hL2 : L (i + 1) with
        | false =>
          have hH1 : HP σ.H A B ops.toList i eff (Hs ord) L = σ.H := by unfold HP; rw [hL, hL2]
          have hH2 : HP σ.H A B ops.toList i eff (Hs true) (fun j => L j || decide (j = i)) = σ.H ++ [A] := by unfold HP; simp [hL2]
          rw [hH1] at hst' hx'
          have hsw : stL ops.toList ops.toList.length (valT ord) { σ1 with H := σ.H } L = stL ops.toList ops.toList.length (valT true) { σ1 with H := σ.H } L := by
            refine st_ext rfl rfl rfl fun t => ?_
            rw [stL_get, stL_get]
            congr 1
            funext v
            cases hw : own ops.toList ops.toList.length t with
            | none => rfl
            | some j =>
              obtain ⟨hj, _⟩ := own_some hw
              simp only
              split
              · rename_i hLj
                have h1 := hlow j hj hLj
                have h2 : j ≠ i := fun h => by subst h; rw [hL] at hLj; cases hLj
                have h3 : j ≠ i + 1 := fun h => by subst h; rw [hL2] at hLj; cases hLj
                rw [(hT ord).1 j h1, (hT true).1 j h1]
                unfold valP
                rw [if_neg h2, if_neg h3, if_neg h2, if_neg h3]
              · rfl
          rw [hsw] at hst'
          refine fin true (fun v τ => v = .ptr σ.H.length 0 ∧ τ = stL ops.toList ops.toList.length (valT true) { σ1 with H := σ.H ++ [A] } L) _ hst' (by unfold Want; rw [hg1]) (evOp_sound hst' ?_) hx' ?_ (fun _ _ => rfl) (fun h => by simp at h)
          · unfold evOp
            simp only [hop1, hz1]
            rw [hAe]
            exact ⟨rfl, rfl⟩
          · rintro v τ ⟨rfl, rfl⟩
            rw [hH2, hvp true]
            exact ⟨rfl, rfl⟩
        | true =>
          obtain rfl := hord2 hL hL2
          have hH1 : HP σ.H A B ops.toList i eff (Hs false) L = σ.H ++ [B] := by unfold HP; rw [hL, hL2]
          have hH2 : HP σ.H A B ops.toList i eff (Hs false) (fun j => L j || decide (j = i)) = σ.H ++ [B] ++ [A] := by
            have e1 : (L i || decide (i = i)) = true := by simp
            have e2 : (L (i + 1) || decide (i + 1 = i)) = true := by simp [hL2]
            unfold HP
            simp only [e1, e2, hc0]
            rw [(hT false).2.1]
            simp [XP]
          rw [hH1] at hst' hx'
          refine fin false (fun v τ => v = .ptr (σ.H ++ [B]).length 0 ∧ τ = stL ops.toList ops.toList.length (valT false) { σ1 with H := σ.H ++ [B] ++ [A] } L) _ hst' (by unfold Want; rw [hg1]) (evOp_sound hst' ?_) hx' ?_ (fun _ h => by simp [hL2] at h) (fun _ _ => rfl)
          · unfold evOp
            simp only [hop1, hz1]
            rw [hAe]
            exact ⟨rfl, rfl⟩
          · rintro v τ ⟨rfl, rfl⟩
            rw [hH2, hvp false]
            simp [V.demote]
      by_cases hi2 : i = p + 1
      · -- the second
        subst hi2
        rw [ho2] at ho
        cases ho
        have hlow := hearly hcl (.inr hL)
        have hvp : ∀ ord', valT ord' (p + 1) = .ptr (if ord' then σ.H.length + 1 else σ.H.length) 0 := fun ord' => by
          rw [(hT ord').1 (p + 1) (by omega)]; unfold valP; rw [if_neg (by omega), if_pos rfl]
        have hc0 : cntG ops.toList eff (fun j => L j || decide (j = p + 1)) = 0 := hcnt0 fun c hc he => by
          cases hLc : L c with
          | false => simp [(hnot2 c he).2]
          | true => have := hlow c hc hLc; have := (hpeff c he).1; omega
        cases hL2 : L p with
        | false =>
          have hH1 : HP σ.H A B ops.toList p eff (Hs ord) L = σ.H := by unfold HP; rw [hL, hL2]
          have hH2 : HP σ.H A B ops.toList p eff (Hs false) (fun j => L j || decide (j = p + 1)) = σ.H ++ [B] := by unfold HP; simp [hL2]
          rw [hH1] at hst' hx'
          have hsw : stL ops.toList ops.toList.length (valT ord) { σ1 with H := σ.H } L = stL ops.toList ops.toList.length (valT false) { σ1 with H := σ.H } L := by
            refine st_ext rfl rfl rfl fun t => ?_
            rw [stL_get, stL_get]
            congr 1
            funext v
            cases hw : own ops.toList ops.toList.length t with
            | none => rfl
            | some j =>
              obtain ⟨hj, _⟩ := own_some hw
              simp only
              split
              · rename_i hLj
                have h1 := hlow j hj hLj
                have h2 : j ≠ p + 1 := fun h => by subst h; rw [hL] at hLj; cases hLj
                have h3 : j ≠ p := fun h => by subst h; rw [hL2] at hLj; cases hLj
                rw [(hT ord).1 j h1, (hT false).1 j h1]
                unfold valP
                rw [if_neg h3, if_neg h2, if_neg h3, if_neg h2]
              · rfl
          rw [hsw] at hst'
          refine fin false (fun v τ => v = .ptr σ.H.length 0 ∧ τ = stL ops.toList ops.toList.length (valT false) { σ1 with H := σ.H ++ [B] } L) _ hst' (by unfold Want; rw [hg2]) (evOp_sound hst' ?_) hx' ?_ (fun h => by simp [hL2] at h) (fun _ _ => rfl)
          · unfold evOp
            simp only [hop2, hz2]
            rw [hBe]
            exact ⟨rfl, rfl⟩
          · rintro v τ ⟨rfl, rfl⟩
            rw [hH2, hvp false]
            exact ⟨rfl, rfl⟩
        | true =>
          obtain rfl := hord1 hL2 hL
          have hH1 : HP σ.H A B ops.toList p eff (Hs true) L = σ.H ++ [A] := by unfold HP; rw [hL, hL2]
          have hH2 : HP σ.H A B ops.toList p eff (Hs true) (fun j => L j || decide (j = p + 1)) = σ.H ++ [A] ++ [B] := by
            have e1 : (L p || decide (p = p + 1)) = true := by simp [hL2]
            have e2 : (L (p + 1) || decide (p + 1 = p + 1)) = true := by simp
            unfold HP
            simp only [e1, e2, hc0]
            rw [(hT true).2.1]
            simp [XP]
          rw [hH1] at hst' hx'
          refine fin true (fun v τ => v = .ptr (σ.H ++ [A]).length 0 ∧ τ = stL ops.toList ops.toList.length (valT true) { σ1 with H := σ.H ++ [A] ++ [B] } L) _ hst' (by unfold Want; rw [hg2]) (evOp_sound hst' ?_) hx' ?_ (fun _ _ => rfl) (fun h => by simp [hL2] at h)
          · unfold evOp
            simp only [hop2, hz2]
            rw [hBe]
            exact ⟨rfl, rfl⟩
          · rintro v τ ⟨rfl, rfl⟩
            rw [hH2, hvp true]
            simp [V.demote]
      -- behind the two
      have hti : p + 2 ≤ i := by omega
      obtain ⟨m1, m2, m3⟩ := hptl i hti hi
      have hLp := in1 p m1
      have hLq := in1 (p + 1) m2
      have hLt : ∀ c, p + 2 ≤ c → c < ops.toList.length → (L c = true ↔ c < i) := by
        intro c hc hcl2
        refine ⟨fun hLc => ?_, fun hlt => in1 c (m3 c hc hlt)⟩
        rcases Nat.lt_trichotomy c i with h2 | h2 | h2
        · exact h2
        · subst h2; rw [hL] at hLc; cases hLc
        · have := closed_mask hup hcl c _ (List.getElem?_eq_getElem hcl2) (fun e he => hcl c _ (List.getElem?_eq_getElem hcl2) hLc e he) i ((hptl c hc hcl2).2.2 i hti h2)
          rw [hL] at this; cases this
      have hcnt : cntG ops.toList eff L = rankG eff i := cntG_rank (by omega) fun c hc he => hLt c (hpeff c he).1 hc
      have hcnt1 : cntG ops.toList eff (fun j => L j || decide (j = i)) = rankG eff (i + 1) := by
        refine cntG_rank (by omega) fun c hc he => ?_
        rw [Bool.or_eq_true, decide_eq_true_eq, hLt c (hpeff c he).1 hc]
        omega
      have hH1 : HP σ.H A B ops.toList p eff (Hs ord) L = Hs ord (rankG eff i) := by unfold HP; rw [hLp, hLq, hcnt]
      have hH2 : HP σ.H A B ops.toList p eff (Hs ord) (fun j => L j || decide (j = i)) = Hs ord (rankG eff (i + 1)) := by unfold HP; simp [hLp, hLq, hcnt1]
      rw [hH1] at hst' hx'
      have hri : rankG eff i ≤ rankG eff ops.toList.length := rankG_le (by omega)
      have hag := agree_stL hok2 (valT ord) { σ1 with H := Hs ord (rankG eff i) } L hcl hi ho hb hL
      have hdqi := hdqT ord _ hri
      have hdm := hdemP ord L
      rw [hH1] at hdm
      have hrest : ((L p || decide (p = i)) = true → (L (p + 1) || decide (p + 1 = i)) = false → ord = true) ∧ ((L p || decide (p = i)) = false → (L (p + 1) || decide (p + 1 = i)) = true → ord = false) :=
        ⟨fun _ h => by simp [hLq] at h, fun h => by simp [hLp] at h⟩
      have hcall : ∀ H', isVCall o = true → ({ σ1 with tmps := (stL ops.toList ops.toList.length (valT ord) { σ1 with H := Hs ord (rankG eff i) } L).tmps, H := H' } : St) = (stL ops.toList ops.toList.length (valT ord) { σ1 with H := Hs ord (rankG eff i) } L).afterCall H' := by
        intro H' hvc
        rw [dq_call (List.mem_of_getElem? ho) hvc] at hdm
        refine st_ext rfl rfl rfl fun t => ?_
        show _ = ((stL ops.toList ops.toList.length (valT ord) { σ1 with H := Hs ord (rankG eff i) } L).tmps.map (V.demote (heapCls (Hs ord (rankG eff i)))))[t]?
        rw [hdm]
      obtain ⟨T, Ao, hK⟩ := (hT ord).2.2.1 i o hti ho
      unfold KnowG at hK
      cases he : memN i eff with
      | true =>
        rw [he] at hK
        obtain ⟨hgd, _, _, _, hop⟩ := hK
        rw [rankG_succ, if_pos he] at hH2
        refine fin ord _ _ hst' (by unfold Want; rw [hgd]) (hop _ rfl (fun x hx => hag.agree.2 x hx) _ a w e' hst') hx' (fun v τ hh => ?_) hrest.1 hrest.2
        obtain ⟨hτ, hvd⟩ := hh
        rw [hdqi] at hvd
        refine ⟨hvd, ?_⟩
        rw [hH2]
        rcases hτ with rfl | ⟨hvc, rfl⟩
        · rfl
        · rw [← hcall _ hvc]; rfl
      | false =>
        rw [he] at hK
        obtain ⟨_, hK⟩ := hK
        rw [rankG_succ, if_neg (by rw [he]; simp), Nat.add_zero] at hH2
        have htsg : stL ops.toList ops.toList.length (valT ord) { σ1 with H := Hs ord (rankG eff i) } (fun l => decide (l < i)) = TSG ops.toList eff (valT ord) (Hs ord) { σ1 with H := σ.H ++ XP A B ord } i := rfl
        rcases hK with ⟨hw, _, _, v0, hv0, hop⟩ | ⟨hw, hv0⟩
        · rw [← htsg] at hw hop
          refine fin ord _ _ hst' (hag.want hw) (hop (stL ops.toList ops.toList.length (valT ord) { σ1 with H := Hs ord (rankG eff i) } L) (.inr (.inl PreH.rfl')) (fun x hx => hag.agree.2 x hx) _ a w e' hst') hx' (fun v τ hh => ?_) hrest.1 hrest.2
          obtain ⟨hτ, rfl⟩ := hh
          rw [hdqi] at hv0
          refine ⟨hv0, ?_⟩
          rw [hH2]
          rcases hτ with rfl | ⟨hvc, rfl⟩
          · rfl
          · rw [show (stL ops.toList ops.toList.length (valT ord) { σ1 with H := Hs ord (rankG eff i) } L).H = Hs ord (rankG eff i) from rfl, ← hcall _ hvc]; rfl
        · rw [← htsg] at hw
          unfold wpOpIn
          simp only [List.getElem?_toArray, ho]
          rw [want_run (b := false) hst' (hag.want hw), if_neg (by simp)]
          refine ⟨fun _ _ => trivial, hn _ _ ⟨ord, e', hrest.1, hrest.2, ?_, by rw [hH2]; exact hx'⟩⟩
          rw [hH2]
          have := hst'.put o.dst (v := valT ord i) (u := undef) (by rw [hv0]; exact ⟨.tup [] #[] rfl (fun i v u h => by simp at h), trivial⟩)
          rwa [stL_put hok2 (valT ord) _ _ hi ho] at this
  · rintro L a w hall ⟨ord, e', _, _, hst', hx'⟩
    have hcnt : cntG ops.toList eff L = rankG eff ops.toList.length := cntG_rank (Nat.le_refl _) fun c hc _ => ⟨fun _ => hc, fun _ => hall c hc⟩
    have hH : HP σ.H A B ops.toList p eff (Hs ord) L = Hs ord (rankG eff ops.toList.length) := by unfold HP; rw [hall p (by omega), hall (p + 1) (by omega), hcnt]
    rw [hH] at hst' hx'
    have hst2 : stL ops.toList ops.toList.length (valT ord) { σ1 with H := Hs ord (rankG eff ops.toList.length) } L = TSG ops.toList eff (valT ord) (Hs ord) { σ1 with H := σ.H ++ XP A B ord } ops.toList.length := by
      unfold TSG
      refine st_ext rfl rfl rfl fun t => ?_
      rw [stL_get, stL_get]
      show Option.map _ σ1.tmps[t]? = Option.map _ σ1.tmps[t]?
      congr 1
      funext v
      cases hw : own ops.toList ops.toList.length t with
      | none => rfl
      | some j =>
        obtain ⟨hj, _⟩ := own_some hw
        simp only [hall j hj, hj, decide_true]
    rw [hst2] at hst'
    exact ⟨_, e', (hT ord).2.2.2, rfl, hst', hx'⟩

/-- The same, for reduction: the two orders one behind the other. -/
theorem wpc_drawP2 {id : Nat} {ops : Array Oper} {Φ : Exit → S2 → Prop} {s : S2} (p : Nat) (eff fx : List Nat) (o1 o2 : Oper) (t1 t2 : TypeId) (cs1 cs2 : List V) (hm : P.follows .mixedOrders = true)
    (hok : drawOk ops.toList ops.toList.length = true) (hokp : okP ops.toList p eff = true)
    (ho1 : ops.toList[p]? = some o1) (ho2 : ops.toList[p + 1]? = some o2) (hg1 : o1.guard = none) (hg2 : o2.guard = none) (hop1 : o1.op = .alloc t1) (hop2 : o2.op = .alloc t2)
    (hz1 : zeroOf P t1 = some cs1) (hz2 : zeroOf P t2 = some cs2) (hc1 : (cs1.all fun v => !v.isCls) = true) (hc2 : (cs2.all fun v => !v.isCls) = true) (hw : s.Wf)
    (h : evQs2 P G ops.toList (ops.toList.take p) (s.dem (dq ops.toList s.H)) fun s1 =>
      (put2 (s1.setH (s1.H ++ [some (.cells t1 cs1), some (.cells t2 cs2)])) o1.dst (.ptr s1.H.length 0) fun s2 => put2 s2 o2.dst (.ptr (s1.H.length + 1) 0) fun s3 =>
        evG2 P G ops.toList eff fx (ops.toList.drop (p + 2)) (p + 2) s3 [] [] fun s' _ _ => Φ .normal s') ∧
      (put2 (s1.setH (s1.H ++ [some (.cells t2 cs2), some (.cells t1 cs1)])) o1.dst (.ptr (s1.H.length + 1) 0) fun s2 => put2 s2 o2.dst (.ptr s1.H.length 0) fun s3 =>
        evG2 P G ops.toList eff fx (ops.toList.drop (p + 2)) (p + 2) s3 [] [] fun s' _ _ => Φ .normal s')) : WPc P G (.region id ops true) (toΦ s.n Φ) s.st := by
  refine wpc_drawP p eff fx o1 o2 t1 t2 cs1 cs2 hm hok hokp ho1 ho2 hg1 hg2 hop1 hop2 hz1 hz2 hc1 hc2 ?_
  have hd := S2.dem_st (s := s) (dq ops.toList s.H)
  have hn : (s.dem (dq ops.toList s.H)).n = s.n := by unfold S2.dem; split <;> rfl
  have := evQs2_imp (K := fun σ1 => ∀ ord, evG P G ops.toList eff fx (ops.toList.drop (p + 2)) (p + 2)
        ((({ σ1 with H := σ1.H ++ XP (some (.cells t1 cs1)) (some (.cells t2 cs2)) ord } : St).put o1.dst (.ptr (if ord then σ1.H.length else σ1.H.length + 1) 0)).put o2.dst (.ptr (if ord then σ1.H.length + 1 else σ1.H.length) 0)) [] []
        fun σ' _ _ => toΦ s.n Φ .normal σ') s.n
    (fun s1 hw1 hn1 h1 ord => by
      have run : ∀ (X : Heap) (u1 u2 : V), (put2 (s1.setH (s1.H ++ X)) o1.dst u1 fun s2 => put2 s2 o2.dst u2 fun s3 =>
          evG2 P G ops.toList eff fx (ops.toList.drop (p + 2)) (p + 2) s3 [] [] fun s' _ _ => Φ .normal s') →
          evG P G ops.toList eff fx (ops.toList.drop (p + 2)) (p + 2) ((({ s1.st with H := s1.st.H ++ X } : St).put o1.dst u1).put o2.dst u2) [] [] fun σ' _ _ => toΦ s.n Φ .normal σ' := by
        intro X u1 u2 hk
        have hwX : (s1.setH (s1.H ++ X)).Wf := by rw [S2.setH_eq]; exact ⟨hw1.n, hw1.d⟩
        obtain ⟨s2, e1, e2, e3, e4⟩ := put2_imp hwX hk
        obtain ⟨s3, f1, f2, f3, f4⟩ := put2_imp e2 e4
        have hst : ({ s1.st with H := s1.st.H ++ X } : St) = (s1.setH (s1.H ++ X)).st := by rw [S2.setH_eq]; rfl
        rw [hst, ← e1, ← f1]
        have hn3 : s3.n = s.n := by rw [f3, e3, S2.setH_eq]; exact hn1
        exact evG2_imp s.n (fun s' _ _ hw' hn' h' => ⟨s', rfl, hw', hn', h'⟩) _ _ s3 _ _ f2 hn3 f4
      cases ord
      · exact run _ _ _ h1.2
      · exact run _ _ _ h1.1) _ _ (S2.dem_wf hw _) hn h
  rw [hd] at this
  exact this
end Go.Abs

/-! Lib -/
/- Contracts of the kit's own kind, of calls of plain values, as contracts over abstract states; data that say less. -/
namespace Go.Abs
open Go.RowKit

variable {P : Program} {G : Nat → Option (List V)}

/-- What a plain value is in the machine. -/
inductive IsVal : V → Value → Prop
  | im (v : Value) : IsVal (.im v) v
  | str (l : List UInt8) : IsVal (.str l) (.string ⟨⟨l⟩⟩)

theorem IsVal.of {w : World} {e : Env} {x : V} {v u : Value} (h : IsVal x v) (hr : RepF w e x u) : u = v := by
  cases h with
  | im v => exact rep_im hr
  | str l => exact rep_str hr

theorem isVals_of {w : World} {e : Env} : ∀ {xs : List V} {vs us : List Value}, xs.length = vs.length → (∀ (i : Nat) (x : V) (v : Value), xs[i]? = some x → vs[i]? = some v → IsVal x v) → Reps w e xs us → us = vs := by
  intro xs vs us hl h hR
  refine List.ext_getElem? fun i => ?_
  by_cases hi : i < xs.length
  · have hi2 : i < vs.length := by omega
    have hi3 : i < us.length := by rw [← hR.1]; exact hi
    rw [List.getElem?_eq_getElem hi2, List.getElem?_eq_getElem hi3]
    have h1 := h i xs[i] vs[i] (List.getElem?_eq_getElem hi) (List.getElem?_eq_getElem hi2)
    have h2 := hR.2 i xs[i] us[i] (List.getElem?_eq_getElem hi) (List.getElem?_eq_getElem hi3)
    rw [h1.of h2]
  · have hl2 := hR.1
    rw [List.getElem?_eq_none (by omega : vs.length ≤ i), List.getElem?_eq_none (by omega : us.length ≤ i)]

theorem isVals2 {w : World} {e : Env} {x y : V} {a b : Value} (h1 : IsVal x a) (h2 : IsVal y b) : ∀ us, Reps w e [x, y] us → us = [a, b] := fun us h => isVals_of rfl (fun i v u hv hu => by
  match i with
  | 0 => simp at hv hu; subst hv; subst hu; exact h1
  | 1 => simp at hv hu; subst hv; subst hu; exact h2
  | i + 2 => simp at hv) h

theorem dw_no (es : Nat) (rows : List (List V)) (fl : Fl) : DW (.dat es rows fl) (.dat es rows .no) :=
  .rows es rows rows fl rfl (fun i r r' h h' => by rw [h] at h'; cases h'; rfl) (fun i j v v' h h' => by rw [h] at h'; cases h'; exact .refl _)

end Go.Abs

/-! Grown -/
/- Calls after which the world has new blocks behind it, and has drawn. -/
namespace Go.Abs
open Go.RowKit

variable {P : Program} {G : Nat → Option (List V)}

theorem RHeap.grown {H : Heap} {w : World} {e : Env} (hR : RHeap G H w e) (k : Nat) (os : Array Obj) :
    RHeap G H (Go.Sort.grow (w.drewN k) os) e ∧ Ext H w e H (Go.Sort.grow (w.drewN k) os) e ∧ Mono w e (Go.Sort.grow (w.drewN k) os) e := by
  have hheap : (Go.Sort.grow (w.drewN k) os).heap = w.heap ++ os := rfl
  have hat : ∀ b, b < w.heap.size → (Go.Sort.grow (w.drewN k) os).heap[b]? = w.heap[b]? := fun b hb => by rw [hheap, Array.getElem?_append_left hb]
  have hcel : ∀ b o, b < w.heap.size → cel (Go.Sort.grow (w.drewN k) os) b o = cel w b o := fun b o hb => by unfold cel World.cell?; simp only [hat b hb]
  have hfro : ∀ b o, b < w.heap.size → fro (Go.Sort.grow (w.drewN k) os) b o = fro w b o := fun b o hb => by unfold fro World.frozen?; simp only [hat b hb]
  have mo : Mono w e (Go.Sort.grow (w.drewN k) os) e := ⟨Nat.le_refl _, fun _ _ => rfl, fun b i h => ⟨h, hcel b i (lt_of_cel (hR.ro b i h))⟩, fun _ _ _ h => h⟩
  refine ⟨⟨hR.len, fun id b hb => (hR.blk id b hb).mono mo (hat _ (hR.blk id b hb).lt), hR.inj, ?_, hR.roOwn, ?_, hR.spd, fun g cs h => (hR.glob g cs h).mono mo⟩,
    ⟨rfl, rfl, rfl, by rw [hheap, Array.size_append]; omega, Nat.le_refl _, fun _ _ => rfl, ?_, fun _ _ h => h, fun _ _ h => h, fun _ _ h => .inl h, fun c _ _ h => .inr ⟨c, h⟩, fun b i hb _ _ => ⟨hcel b i hb, hfro b i hb⟩, fun b hb _ _ => hat b hb⟩, mo⟩
  · intro b i h
    have h1 := hR.ro b i h
    rw [hcel b i (lt_of_cel h1)]
    exact h1
  · intro c b i h
    obtain ⟨h1, h2, h3, h4⟩ := hR.sp c b i h
    have hlt := lt_of_cel h1
    exact ⟨by rw [hcel b i hlt]; exact h1, by rw [hfro b i hlt]; exact h2, h3, h4⟩
  · intro id hid hl
    have := live_lt hl
    omega

/-- A contract of the kit's own kind, over the worlds in which package variables lie as G says. -/
theorem Call2.ofGrown {f : FuncId} {vs : List V} {us : List Value} {r : V} {v : Value} (Q : World → Prop) (hQ : ∀ H w e, RHeap G H w e → Q w) (hok : fnOk P f) (hargs : ∀ w e us', Reps w e vs us' → us' = us) (hr : ∀ w e, RepF w e r v)
    (h : ∀ w, Q w → Calls P f us.toArray w fun en w' => en = .returned v ∧ ∃ k os, w' = Go.Sort.grow (w.drewN k) os) (H : Heap) : Call2 P G f vs H fun r' H' => H' = H ∧ r' = r := by
  refine ⟨hok, fun w e us' hR hA => ?_⟩
  obtain rfl := hargs w e us' hA
  refine CallsIn.mono (callsIn_wide.2 (h w (hQ H w e hR))) ?_
  rintro en w' ⟨rfl, k, os, rfl⟩
  obtain ⟨h1, h2, _⟩ := hR.grown k os
  exact ⟨v, r, H, e, rfl, ⟨rfl, rfl⟩, h1, hr _ _, h2⟩
end Go.Abs

/-! Row -/
/- From contracts to rows. -/
namespace Go.Abs
open Go.RowKit Go.ChangeShapes Go.WideShapes Go.ChangeAt

variable {P : Program} {G : Nat → Option (List V)}

theorem Ext.below {w w' : World} {e e' : Env} {H' : Heap} (h : Ext [] w e H' w' e') (hs : ∀ c b o, ¬ e.Sp c b o) : Below w.heap.size w w' :=
  ⟨h.os, h.tape, h.output, h.size, fun k hk => h.block k hk (fun id hl => by obtain ⟨b, hb⟩ := hl; simp at hb) fun c o => hs c k o⟩

/-- An environment that may read all that is there. -/
def Env.all (w : World) : Env := { N := 0, ρ := fun _ => 0, RO := fun b o => (cel w b o).isSome = true, Sp := fun _ _ _ => False }

theorem rheap_all {G : Nat → Option (List V)} (w : World) (hG : ∀ g cs, G g = some cs → Rep w (Env.all w) (.rp cs) (.pointer (some ⟨g, 0, none⟩))) : RHeap G [] w (Env.all w) :=
  ⟨rfl, fun id b hb => by simp at hb, fun i j hi => by obtain ⟨b, hb⟩ := hi; simp at hb, fun b o h => h, fun id o hl => by obtain ⟨b, hb⟩ := hl; simp at hb, fun c b o h => h.elim, fun _ _ _ _ h => h.elim, hG⟩

/-- A law of values that are there, and of package variables. -/
theorem walk_all {G : Nat → Option (List V)} {f : FuncId} {vs : List V} {us : List Value} {Ψ : V → Prop} {r : Value} (hr : ∀ v, Ψ v → v = .im r) (w : World)
    (hG : ∀ g cs, G g = some cs → Rep w (Env.all w) (.rp cs) (.pointer (some ⟨g, 0, none⟩))) (hargs : Reps w (Env.all w) vs us)
    (h : Call2 P G f vs [] fun v H' => H' = [] ∧ Ψ v) :
    Calls P f us.toArray w fun en w' => en = .returned r ∧ Below w.heap.size w w' := by
  refine callsIn_wide.1 (CallsIn.mono (h.2 w (Env.all w) us (rheap_all w hG) hargs) ?_)
  rintro en w' ⟨v, x, H', e', rfl, ⟨rfl, hΨ⟩, _, hv, hx⟩
  have := hr x hΨ
  subst this
  exact ⟨by rw [rep_im hv], hx.below fun _ _ _ h => h⟩

/-- A plain cell as it stands. -/
def plainV : Value → Option V
  | .int k n => some (.int k n)
  | .bool b => some (.bool b)
  | .string s => some (.str s.data.toList)
  | _ => none

theorem rep_plain {w : World} {e : Env} {u : Value} {v : V} (h : plainV u = some v) : Rep w e v u := by
  cases u with
  | int k n => cases h; exact .im _
  | bool b => cases h; exact .im _
  | string s => cases h; exact .str s.data.toList
  | _ => cases h

/-- A package variable of plain cells. -/
theorem rep_glob {w : World} {g : Nat} {cs : List V} (us : Nat → Value) (h : ∀ (j : Nat) (v : V), cs[j]? = some v → w.cell? ⟨g, j, none⟩ = some (us j) ∧ plainV (us j) = some v) :
    Rep w (Env.all w) (.rp cs) (.pointer (some ⟨g, 0, none⟩)) :=
  .rp cs g 0 us (fun j v hv => by
    have h1 : cel w g (0 + j) = some (us j) := by rw [Nat.zero_add]; exact (h j v hv).1
    exact ⟨h1, by show (cel w g (0 + j)).isSome = true; rw [h1]; rfl⟩) (fun j v hv => rep_plain (h j v hv).2)

theorem wf_i64 {n : Int} (h : (Lit.int .i64 n).wf = true) : -9223372036854775808 ≤ n ∧ n ≤ 9223372036854775807 := by
  simp only [Lit.wf, Bool.and_eq_true, decide_eq_true_eq] at h
  exact h

section
variable {H : Type} {enc : TypeId × Value → H}
/-- The row's end, where nothing that was there has turned. -/
theorem post_below {f : Func} {s : ChangeSpec} {apart fresh handsOn again : Bool} {W W' : World} {args : Array Value} {v : Value} {ds gs : List (DataW H)} {before pa pv : List MemPlace}
    (hW : DataW.Whole enc P f.params.toList s.vars apart W args.toList ds gs before)
    (hres : ∀ (b : Nat) (sp : Nat → Bool) (hd : Bool), DataW.TrodAll enc P W' b sp hd f.resultTypes.toList (v.resultList f.resultTypes.size) (s.fn H (ds ++ gs)).results [])
    (hargs : ∀ sp : Nat → Bool, (∀ p ∈ before, sp p.block = true) → DataW.TrodAll enc P W' 0 sp true f.params.toList args.toList (s.fn H (ds ++ gs)).args pa)
    (hvars : ∀ sp : Nat → Bool, (∀ p ∈ before, sp p.block = true) → DataW.TrodVars enc P W' sp s.vars (s.fn H (ds ++ gs)).vars pv)
    (hps : before = pa ++ pv) (hB : Below W.heap.size W W')
    (hok : ∀ (j : Nat) (t : TypeId) (r : Value), f.resultTypes[j]? = some t → (v.resultList f.resultTypes.size)[j]? = some r → Value.okWide P W' .any 0 t r) :
    s.post enc P f apart fresh handsOn again W args v W' := by
  have hlt : ∀ p ∈ before, p.block < W.heap.size := fun p hp => hW.lt p hp
  have hold : ∀ p ∈ before, (fun b => decide (b < W.heap.size)) p.block = true := fun p hp => by simpa using hlt p hp
  refine ⟨ds, gs, before, [], pa, pv, hW, hres _ _ _, hargs _ hold, hvars _ hold, World.keptBut_mono (fun p hp => ⟨hp, ?_⟩) (hB.frame (· ∈ before)), fun _ => ?_⟩
  · rw [hps, List.mem_append] at hp
    exact Or.inr hp
  · obtain ⟨_, _, _, _, _, hz, hn⟩ := hW
    refine ⟨hok, _, _, ([] ++ pa) ++ pv, ⟨[] ++ pa, pv, trodAll_append (hargs _ (fun _ _ => rfl)) (hres _ _ _), hvars _ (fun _ _ => rfl), rfl, ?_, ?_⟩, ?_⟩
    · intro b off hp
      have hp' : MemPlace.cell b off ∈ before := by rw [hps]; simpa using hp
      rw [hB.frozen (p := ⟨b, off, none⟩) (hlt _ hp')]
      exact hz b off hp'
    · intro ha
      have := hn ha
      rw [hps] at this
      simpa using this
    · intro p hp _
      rw [hps]
      simpa using hp
end

end Go.Abs

/-! Open -/
/- Arguments of data: opened by their types. -/
namespace Go.Abs
open Go.RowKit Go.ChangeShapes Go.WideShapes Go.ChangeAt

variable {P : Program}

/-- The fields' cells, one behind the other. -/
def ShFs (sh : TypeId → List V → Prop) : List Field → List V → Prop
  | [], vs => vs = []
  | f :: fs, vs => ∃ p q, sh f.type p ∧ ShFs sh fs q ∧ vs = p ++ q

/-- The shapes of data: what the cells of a type may hold. -/
def Sh (P : Program) : Nat → TypeId → List V → Prop
  | 0, _, _ => False
  | n + 1, t, vs => match P.underlying t with
    | some (.int k) => ∃ x, vs = [.im (.int k x)] ∧ (Lit.int k x).wf = true
    | some .bool => ∃ b, vs = [.im (.bool b)]
    | some .string => ∃ l : List UInt8, vs = [.str l] ∧ l.length ≤ reachBytes
    | some (.slice e) => ∃ rows, vs = [.dat (P.cellsOf e) rows .no] ∧ rows.length * P.bytesOf e ≤ reachBytes ∧ ∀ r ∈ rows, Sh P n e r
    | some (.struct fs) => ShFs (Sh P n) fs.toList vs
    | _ => False

def contig (P : Program) : Nat → Nat → List Field → Bool
  | o, total, [] => Nat.beq o total
  | o, total, f :: fs => Nat.beq f.offset o && contig P (o + P.cellsOf f.type) total fs

/-- Types that are opened. -/
def plainT (P : Program) : Bool → Nat → TypeId → Bool
  | _, 0, _ => false
  | sl, n + 1, t => match P.underlying t with
    | some (.int _) => Nat.beq (P.cellsOf t) 1
    | some .bool => Nat.beq (P.cellsOf t) 1
    | some .string => Nat.beq (P.cellsOf t) 1
    | some (.slice e) => sl && Nat.beq (P.cellsOf t) 1 && Nat.ble 1 (P.cellsOf e) && plainT P sl n e
    | some (.struct fs) => contig P 0 (P.cellsOf t) fs.toList && fs.toList.all fun f => plainT P sl n f.type
    | _ => false

def RepL (w : World) (e : Env) (vs : List V) (us : List Value) : Prop := vs.length = us.length ∧ ∀ (i : Nat) (v : V) (u : Value), vs[i]? = some v → us[i]? = some u → Rep w e v u

theorem RepL.append {w : World} {e : Env} {vs vs' : List V} {us us' : List Value} (h : RepL w e vs us) (h' : RepL w e vs' us') : RepL w e (vs ++ vs') (us ++ us') := by
  refine ⟨by rw [List.length_append, List.length_append, h.1, h'.1], fun i v u hv hu => ?_⟩
  by_cases hi : i < vs.length
  · rw [List.getElem?_append_left hi] at hv
    rw [List.getElem?_append_left (by rw [← h.1]; exact hi)] at hu
    exact h.2 i v u hv hu
  · rw [List.getElem?_append_right (by omega)] at hv
    rw [List.getElem?_append_right (by rw [← h.1]; omega), ← h.1] at hu
    exact h'.2 _ v u hv hu

theorem RepL.one {w : World} {e : Env} {v : V} {u : Value} (h : Rep w e v u) : RepL w e [v] [u] := ⟨rfl, fun i v' u' hv hu => by
  cases i with
  | zero => simp at hv hu; subst hv; subst hu; exact h
  | succ i => simp at hv⟩

theorem choose_rows {Q : Nat → List V → Prop} : ∀ (n : Nat), (∀ i, i < n → ∃ r, Q i r) → ∃ rows : List (List V), rows.length = n ∧ ∀ (i : Nat) (r : List V), rows[i]? = some r → Q i r
  | 0, _ => ⟨[], rfl, fun i r h => by simp at h⟩
  | n + 1, h => by
    obtain ⟨rows, hl, hq⟩ := choose_rows n fun i hi => h i (by omega)
    obtain ⟨r, hr⟩ := h n (by omega)
    refine ⟨rows ++ [r], by simp [hl], fun i r' hr' => ?_⟩
    by_cases hi : i < rows.length
    · rw [List.getElem?_append_left hi] at hr'
      exact hq i r' hr'
    · rw [List.getElem?_append_right (by omega)] at hr'
      have : i = n := by
        have := (List.getElem?_eq_some_iff.1 hr').1
        simp at this
        omega
      subst this
      rw [hl, Nat.sub_self] at hr'
      simp at hr'
      subst hr'
      exact hr

variable {H : Type} {enc : TypeId × Value → H}

theorem mem_weightsAll {e : TypeId} {n : Nat} : ∀ {l : List (DataW H)} {i : Nat} {d : DataW H}, l[i]? = some d → n ∈ d.weights P e → n ∈ DataW.weightsAll P e l
  | [], i, d, h, _ => by simp at h
  | d0 :: l, 0, d, h, hn => by
    simp only [List.getElem?_cons_zero, Option.some.injEq] at h
    subst h
    simp [DataW.weightsAll, hn]
  | d0 :: l, i + 1, d, h, hn => by
    simp only [DataW.weightsAll, List.mem_append]
    exact .inr (mem_weightsAll (i := i) (by simpa using h) hn)

theorem mem_weightsEach {n : Nat} : ∀ {ts : List TypeId} {l : List (DataW H)} {i : Nat} {t : TypeId} {d : DataW H}, ts[i]? = some t → l[i]? = some d → n ∈ d.weights P t → n ∈ DataW.weightsEach P ts l
  | [], _, i, t, d, h, _, _ => by simp at h
  | _ :: _, [], i, t, d, _, h, _ => by simp at h
  | t0 :: ts, d0 :: l, 0, t, d, h, h2, hn => by
    simp only [List.getElem?_cons_zero, Option.some.injEq] at h h2
    subst h; subst h2
    simp [DataW.weightsEach, hn]
  | t0 :: ts, d0 :: l, i + 1, t, d, h, h2, hn => by
    simp only [DataW.weightsEach, List.mem_append]
    exact .inr (mem_weightsEach (i := i) (by simpa using h) (by simpa using h2) hn)

theorem open_fields {w : World} {n m : Nat} {sl : Bool} {total : Nat} (ih : ∀ (t : TypeId) (cs : List Value) (x : DataW H × List MemPlace), DataW.trod enc P w 0 (fun _ => true) true m t cs = some x → (∀ k ∈ x.1.weights P t, k ≤ reachBytes) → plainT P sl n t = true →
      ∃ vs, Sh P n t vs ∧ RepL w (Env.all w) vs cs) (cs : List Value) (hcs : cs.length = total) :
    ∀ (fs : List Field) (o : Nat), o ≤ total → contig P o total fs = true → fs.all (fun f => plainT P sl n f.type) = true →
      (∀ f ∈ fs, ∃ x, DataW.trod enc P w 0 (fun _ => true) true m f.type ((cs.drop f.offset).take (P.cellsOf f.type)) = some x ∧ ∀ k ∈ x.1.weights P f.type, k ≤ reachBytes) →
      (∀ f ∈ fs, f.offset + P.cellsOf f.type ≤ total) →
      ∃ vs, ShFs (Sh P n) fs vs ∧ RepL w (Env.all w) vs (cs.drop o)
  | [], o, _, hc, _, _, _ => by
    refine ⟨[], rfl, ?_⟩
    have : o = total := Nat.eq_of_beq_eq_true hc
    rw [this, ← hcs, List.drop_length]
    exact ⟨rfl, fun i v u h => by simp at h⟩
  | f :: fs, o, ho, hc, hp, htr, hle => by
    simp only [contig, Bool.and_eq_true, Nat.beq_eq] at hc
    obtain ⟨hoff, hc⟩ := hc
    simp only [List.all_cons, Bool.and_eq_true] at hp
    obtain ⟨x, hx, hxw⟩ := htr f (by simp)
    rw [hoff] at hx
    have hl := hle f (by simp)
    rw [hoff] at hl
    obtain ⟨p, hp1, hp2⟩ := ih f.type _ x hx hxw hp.1
    obtain ⟨q, hq1, hq2⟩ := open_fields ih cs hcs fs (o + P.cellsOf f.type) hl hc hp.2 (fun g hg => htr g (by simp [hg])) fun g hg => hle g (by simp [hg])
    refine ⟨p ++ q, ⟨p, q, hp1, hq1, rfl⟩, ?_⟩
    have : cs.drop o = (cs.drop o).take (P.cellsOf f.type) ++ cs.drop (o + P.cellsOf f.type) := by
      rw [← List.drop_drop, List.take_append_drop]
    rw [this]
    exact hp2.append hq2

theorem contig_le : ∀ (fs : List Field) (o total : Nat), contig P o total fs = true → o ≤ total ∧ ∀ f ∈ fs, f.offset + P.cellsOf f.type ≤ total
  | [], o, total, h => ⟨by have : o = total := Nat.eq_of_beq_eq_true h; omega, fun f hf => by cases hf⟩
  | f :: fs, o, total, h => by
    simp only [contig, Bool.and_eq_true, Nat.beq_eq] at h
    obtain ⟨h1, h2⟩ := contig_le fs _ total h.2
    refine ⟨by omega, fun g hg => ?_⟩
    rcases List.mem_cons.1 hg with rfl | hg
    · rw [h.1]; exact h1
    · exact h2 g hg

theorem open_trod {w : World} : ∀ (n : Nat) (sl : Bool) (m : Nat) (t : TypeId) (cs : List Value) (x : DataW H × List MemPlace), DataW.trod enc P w 0 (fun _ => true) true m t cs = some x → (∀ k ∈ x.1.weights P t, k ≤ reachBytes) → plainT P sl n t = true →
      ∃ vs, Sh P n t vs ∧ RepL w (Env.all w) vs cs
  | 0, _, _, _, _, _, _, _, hp => by simp [plainT] at hp
  | n + 1, sl, m, t, cs, x, h, hw, hp => by
    unfold plainT at hp
    split at hp
    · rename_i k hu
      obtain ⟨z, rfl, _, hwf⟩ := DataW.trod_int hu h
      exact ⟨[.im (.int k z)], by unfold Sh; rw [hu]; exact ⟨z, rfl, hwf⟩, .one (.im _)⟩
    · rename_i hu
      obtain ⟨b, rfl, _⟩ := DataW.trod_bool hu h
      exact ⟨[.im (.bool b)], by unfold Sh; rw [hu]; exact ⟨b, rfl⟩, .one (.im _)⟩
    · rename_i hu
      obtain ⟨s, rfl, rfl, hs⟩ := DataW.trod_string hu h
      have hl : s.data.toList.length ≤ reachBytes := hw _ (by simp [DataW.weights])
      exact ⟨[.str s.data.toList], by unfold Sh; rw [hu]; exact ⟨_, rfl, hl⟩, .one (.str s.data.toList)⟩
    · rename_i e hu
      simp only [Bool.and_eq_true, Nat.ble_eq, Nat.beq_eq] at hp
      obtain ⟨⟨⟨_, _⟩, hs1⟩, hpe⟩ := hp
      rcases DataW.trod_slice hu h with ⟨rfl, _⟩ | ⟨a, len, cap, elems, rest, m', _, rfl, rfl, _, hlc, hcm, hel, helem, hspare, _⟩
      · exact ⟨[.dat (P.cellsOf e) [] .no], by unfold Sh; rw [hu]; exact ⟨[], rfl, by simp, by simp⟩, .one (.nil _ _)⟩
      · by_cases hcap0 : cap = 0
        · have hl0 : len = 0 := by omega
          subst hcap0; subst hl0
          exact ⟨[.dat (P.cellsOf e) [] .no], by unfold Sh; rw [hu]; exact ⟨[], rfl, by simp, by simp⟩, .one (.nul _ _ a)⟩
        have ha : a.spot = none := by
          have first : ∀ (y : Option (DataW H × List MemPlace)) (z : DataW H × List MemPlace), y = some z → (w.cells? 0 (a.add (0 * P.cellsOf e)) (P.cellsOf e)).bind (DataW.trod enc P w 0 (fun _ => true) true m' e) = y → a.spot = none := by
            intro y z hy h1
            rw [hy] at h1
            obtain ⟨ci, hci, _⟩ := Option.bind_eq_some_iff.1 h1
            rw [Nat.zero_mul] at hci
            obtain ⟨_, hcl, hcc⟩ := World.cells?_some hci
            have hz := hcc 0 hs1
            rw [List.getElem?_eq_getElem (by omega : 0 < ci.length)] at hz
            have hz' : w.cell? a = some ci[0] := hz
            cases hs : a.spot with
            | none => rfl
            | some s =>
              unfold World.cell? at hz'
              rw [hs] at hz'
              cases hh : w.heap[a.block]? with
              | none => rw [hh] at hz'; cases hz'
              | some ob => rw [hh] at hz'; cases ob <;> cases hz'
          by_cases hl0 : len = 0
          · obtain ⟨hr1, hr2⟩ := hspare rfl
            have := hr2 0 (by omega)
            rw [hl0, Nat.add_zero, List.getElem?_eq_getElem (by omega : 0 < rest.length)] at this
            exact first _ _ rfl this
          · have := helem 0 (by omega)
            rw [List.getElem?_eq_getElem (by omega : 0 < elems.length)] at this
            exact first _ _ rfl this
        obtain ⟨b, o, spot⟩ := a
        simp only at ha
        subst ha
        have hwe : ∀ k ∈ DataW.weights P t (.slice (elems.map (·.1)) (rest.map (·.1))), k ≤ reachBytes := hw
        simp only [DataW.weights, hu, List.mem_cons, List.mem_append, List.length_map] at hwe
        have hbytes : len * P.bytesOf e ≤ reachBytes := by
          have := hwe _ (.inl rfl)
          rw [Nat.add_mul, hel] at this
          omega
        have each : ∀ i, i < len → ∃ r, Sh P n e r ∧ r.length = P.cellsOf e ∧ ∀ (j : Nat) (v : V), r[j]? = some v → ∃ u, cel w b (o + (i * P.cellsOf e + j)) = some u ∧ Rep w (Env.all w) v u := by
          intro i hi
          have h1 := helem i hi
          rw [List.getElem?_eq_getElem (by omega : i < elems.length)] at h1
          obtain ⟨ci, hci, hti⟩ := Option.bind_eq_some_iff.1 h1
          rw [addr_add] at hci
          obtain ⟨_, hcl, hcc⟩ := World.cells?_some hci
          obtain ⟨r, hr1, hr2⟩ := open_trod n sl m' e ci _ hti (fun k hk => hwe k (.inr (.inl (mem_weightsAll (i := i) (d := (elems[i]'(by omega)).1) (by simp [(by omega : i < elems.length)]) hk)))) hpe
          refine ⟨r, hr1, by rw [hr2.1, hcl], fun j v hv => ?_⟩
          have hj : j < ci.length := by rw [← hr2.1]; exact (List.getElem?_eq_some_iff.1 hv).1
          refine ⟨ci[j], ?_, hr2.2 j v ci[j] hv (by simp [hj])⟩
          have := hcc j (by omega)
          rw [addr_add, List.getElem?_eq_getElem hj] at this
          rw [← Nat.add_assoc]
          exact this
        obtain ⟨rows, hrl, hrows⟩ := choose_rows len each
        refine ⟨[.dat (P.cellsOf e) rows .no], ?_, .one ?_⟩
        · unfold Sh
          rw [hu]
          refine ⟨rows, rfl, by rw [hrl]; exact hbytes, fun r hr => ?_⟩
          obtain ⟨i, hi, rfl⟩ := List.getElem_of_mem hr
          exact (hrows i _ (by simp [hi])).1
        · have hat : ∀ (i j : Nat) (v : V), at2 rows i j = some v → ∃ u, cel w b (o + (i * P.cellsOf e + j)) = some u ∧ Rep w (Env.all w) v u := by
            intro i j v hv
            unfold at2 at hv
            obtain ⟨r, hr, hj⟩ := Option.bind_eq_some_iff.1 hv
            exact (hrows i r hr).2.2 j v hj
          have := Rep.dat (w := w) (e := Env.all w) (P.cellsOf e) rows .no b o cap (fun i j => (cel w b (o + (i * P.cellsOf e + j))).getD undef)
            (fun r hr => by
              obtain ⟨i, hi, rfl⟩ := List.getElem_of_mem hr
              exact (hrows i _ (by simp [hi])).2.1) (by omega) (by simp)
            (fun i j v hv => by
              obtain ⟨u, hu, _⟩ := hat i j v hv
              rw [hu]
              exact ⟨rfl, by show (cel w b _).isSome = true; rw [hu]; rfl⟩)
            (fun i j v hv => by
              obtain ⟨u, hu, hr⟩ := hat i j v hv
              rw [hu]
              exact hr)
          rwa [hrl] at this
    · rename_i fs hu
      simp only [Bool.and_eq_true] at hp
      obtain ⟨xs, m', _, rfl, hl, hxl, hf⟩ := DataW.trod_struct hu h
      have hwe : ∀ k ∈ DataW.weights P t (.agg (xs.map (·.1))), k ≤ reachBytes := hw
      simp only [DataW.weights, hu] at hwe
      obtain ⟨_, hle⟩ := contig_le fs.toList 0 _ hp.1
      obtain ⟨vs, h1, h2⟩ := open_fields (sl := sl) (n := n) (m := m') (total := P.cellsOf t) (fun t cs x => open_trod n sl m' t cs x) cs hl fs.toList 0 (Nat.zero_le _) hp.1 hp.2 (fun f hfm => by
        obtain ⟨i, hi, rfl⟩ := List.getElem_of_mem hfm
        have hi' : i < fs.size := by simpa using hi
        have := hf i fs[i] (by simp [hi'])
        rw [List.getElem?_eq_getElem (by omega : i < xs.length)] at this
        refine ⟨_, by simpa using this, fun k hk => hwe k (mem_weightsEach (i := i) (t := fs[i].type) (d := (xs[i]'(by omega)).1) ?_ ?_ (by simpa using hk))⟩
        · simp [hi']
        · simp [(by omega : i < xs.length)]) hle
      exact ⟨vs, by unfold Sh; rw [hu]; exact h1, by simpa using h2⟩
    · cases hp

/-- The shape of an argument. -/
def ShV (P : Program) (n : Nat) (t : TypeId) (x : V) : Prop :=
  match aggT P t with
  | true => ∃ vs, x = .agg vs ∧ Sh P n t vs
  | false => Sh P n t [x]

theorem open_arg {w : World} {r : Reach} {base : Nat} {t : TypeId} {v : Value} {d : DataW H} {ps : List MemPlace} (n : Nat) (hok : Value.okWide P w r base t v) (h : DataW.Trod enc P w 0 (fun _ => true) true t v d ps)
    (hw : ∀ k ∈ d.weights P t, k ≤ reachBytes) (hp : plainT P true n t = true) : ∃ x : V, ShV P n t x ∧ RepF w (Env.all w) x v := by
  obtain ⟨m, hm⟩ := h
  cases hagg : aggT P t with
  | true =>
    have hcs : ∃ cs, v = .agg cs ∧ Row.okWide P w r base t cs := by
      unfold Value.okWide at hok
      unfold aggT at hagg
      split at hok
      · obtain ⟨cs, h1, _, h2⟩ := hok; exact ⟨cs, h1, h2⟩
      · obtain ⟨cs, h1, _, h2⟩ := hok; exact ⟨cs, h1, h2⟩
      · rename_i h1 h2
        split at hagg
        · rename_i hu; exact absurd hu (h1 _)
        · rename_i hu; exact absurd hu (h2 _ _)
        · cases hagg
    obtain ⟨cs, rfl, ts, _, _, hrow⟩ := hcs
    obtain ⟨vs, h1, h2⟩ := open_trod n true m t _ _ hm hw hp
    refine ⟨.agg vs, by unfold ShV; rw [hagg]; exact ⟨vs, rfl, h1⟩, .agg vs cs (by simpa [Value.cells] using h2.1) fun i x u hx hu => h2.2 i x u hx (by simpa [Value.cells] using hu), trivial⟩
  | false =>
    have hcell : Cell.okWide P w r base t v := by
      unfold Value.okWide at hok
      unfold aggT at hagg
      split at hok
      · rename_i hu; rw [hu] at hagg; cases hagg
      · rename_i hu; rw [hu] at hagg; cases hagg
      · exact hok
    have hcv : v.cells = #[v] := by
      cases v <;> first
        | rfl
        | (exfalso
           unfold Cell.okWide at hcell
           split at hcell <;> first | (simp_all; done) | skip
           all_goals (unfold Cell.ok at hcell; split at hcell <;> simp_all))
    rw [hcv] at hm
    obtain ⟨vs, h1, h2⟩ := open_trod n true m t _ _ hm hw hp
    obtain ⟨x, rfl⟩ : ∃ x, vs = [x] := List.length_eq_one_iff.1 (by simpa using h2.1)
    refine ⟨x, by unfold ShV; rw [hagg]; exact h1, h2.2 0 x v rfl rfl, ?_⟩
    cases n with
    | zero => exact h1.elim
    | succ n =>
      unfold Sh at h1
      split at h1
      · obtain ⟨_, h, _⟩ := h1; simp at h; subst h; cases v <;> trivial
      · obtain ⟨_, h⟩ := h1; simp at h; subst h; cases v <;> trivial
      · obtain ⟨_, h, _⟩ := h1; simp at h; subst h; cases v <;> trivial
      · obtain ⟨_, h, _⟩ := h1; simp at h; subst h; cases v <;> trivial
      · rename_i hu; unfold aggT at hagg; rw [hu] at hagg; cases hagg
      · exact h1.elim

def ShAll (P : Program) (n : Nat) : List TypeId → List V → Prop
  | [], xs => xs = []
  | t :: ts, xs => ∃ x r, ShV P n t x ∧ ShAll P n ts r ∧ xs = x :: r

theorem Reps.cons {w : World} {e : Env} {v : V} {u : Value} {vs : List V} {us : List Value} (h : RepF w e v u) (hs : Reps w e vs us) : Reps w e (v :: vs) (u :: us) :=
  ⟨by simp [hs.1], fun i v' u' hv hu => by
    cases i with
    | zero => simp at hv hu; subst hv; subst hu; exact h
    | succ i => exact hs.2 i v' u' (by simpa using hv) (by simpa using hu)⟩

theorem open_all {w : World} {r : Reach} {base : Nat} (n : Nat) : ∀ (ts : List TypeId) (vs : List Value) (ds : List (DataW H)) (ps : List MemPlace), (∀ t ∈ ts, plainT P true n t = true) → (∀ (i : Nat) (t : TypeId) (d : DataW H), ts[i]? = some t → ds[i]? = some d → ∀ k ∈ d.weights P t, k ≤ reachBytes) →
    (∀ (j : Nat) (t : TypeId) (v : Value), ts[j]? = some t → vs[j]? = some v → Value.okWide P w r base t v) →
    DataW.TrodAll enc P w 0 (fun _ => true) true ts vs ds ps → ∃ xs, ShAll P n ts xs ∧ Reps w (Env.all w) xs vs
  | [], [], [], ps, _, _, _, _ => ⟨[], rfl, rfl, fun i v u h => by simp at h⟩
  | [], [], _ :: _, ps, _, _, _, h => h.elim
  | [], _ :: _, _, ps, _, _, _, h => by cases h
  | t :: ts, [], _, ps, _, _, _, h => by cases h
  | t :: ts, v :: vs, [], ps, _, _, _, h => h.elim
  | t :: ts, v :: vs, d :: ds, ps, hp, hw, hok, ⟨p, q, h1, h2, he⟩ => by
    obtain ⟨x, hx1, hx2⟩ := open_arg n (hok 0 t v rfl rfl) h1 (hw 0 t d rfl rfl) (hp t (by simp))
    obtain ⟨xs, hs1, hs2⟩ := open_all n ts vs ds q (fun t ht => hp t (by simp [ht])) (fun i t d ht hd => hw (i + 1) t d (by simpa using ht) (by simpa using hd)) (fun j t v ht hv => hok (j + 1) t v (by simpa using ht) (by simpa using hv)) h2
    exact ⟨x :: xs, ⟨x, xs, hx1, hs1, rfl⟩, Reps.cons hx2 hs2⟩

/-- An argument reads again as it did. -/
theorem trod_back {t : TypeId} (hl : laidOutB P = true) (hr : P.readableRec t = true) (hrow : t < P.types.size) {W W' : World} {v : Value} {d : DataW H} {ps : List MemPlace}
    (h : DataW.Trod enc P W 0 (fun _ => true) true t v d ps) (hb : Below W.heap.size W W') (hlt : ∀ x ∈ ps, x.block < W.heap.size) (sp : Nat → Bool) (hs : ∀ p ∈ ps, sp p.block = true) : DataW.Trod enc P W' 0 sp true t v d ps :=
  WideElems.Trod_stays hl hr hrow h (fun x hx => hb.same (hlt x hx)) hs

theorem trodAll_back (hl : laidOutB P = true) : ∀ (ts : List TypeId), (∀ t ∈ ts, P.readableRec t = true ∧ t < P.types.size) → ∀ {W W' : World} (vs : List Value) (ds : List (DataW H)) (ps : List MemPlace),
    DataW.TrodAll enc P W 0 (fun _ => true) true ts vs ds ps → Below W.heap.size W W' → (∀ x ∈ ps, x.block < W.heap.size) → ∀ (sp : Nat → Bool), (∀ p ∈ ps, sp p.block = true) → DataW.TrodAll enc P W' 0 sp true ts vs ds ps
  | [], _, W, W', [], [], ps, h, _, _, _, _ => h
  | [], _, W, W', [], _ :: _, ps, h, _, _, _, _ => h.elim
  | [], _, W, W', _ :: _, _, ps, h, _, _, _, _ => by cases h
  | t :: ts, _, W, W', [], _, ps, h, _, _, _, _ => by cases h
  | t :: ts, _, W, W', v :: vs, [], ps, h, _, _, _, _ => h.elim
  | t :: ts, hr, W, W', v :: vs, d :: ds, ps, ⟨p, q, h1, h2, he⟩, hb, hlt, sp, hs => by
    subst he
    refine ⟨p, q, trod_back hl (hr t (by simp)).1 (hr t (by simp)).2 h1 hb (fun x hx => hlt x (by simp [hx])) sp (fun x hx => hs x (by simp [hx])), ?_, rfl⟩
    exact trodAll_back hl ts (fun t ht => hr t (by simp [ht])) vs ds q h2 hb (fun x hx => hlt x (by simp [hx])) sp (fun x hx => hs x (by simp [hx]))

end Go.Abs

/-! Law -/
/- A law over arguments of data: from its contract to the row's step. -/
namespace Go.Abs
open Go.RowKit Go.ChangeShapes Go.WideShapes Go.ChangeAt

variable {P : Program} {H : Type} {enc : TypeId × Value → H}

theorem calls_data {G : Nat → Option (List V)} {f : FuncId} {fn : Func} {s : ChangeSpec} {W : World} {base : Nat} {args : Array Value} {ds gs : List (DataW H)} {before : List MemPlace} (n : Nat) {tb : TypeId}
    (hW : DataW.Whole enc P fn.params.toList s.vars false W args.toList ds gs before) (hvars : s.vars = []) (hvt : s.plain.varTypes P = [])
    (hsz : (DataW.weightsEach P (fn.params.toList ++ s.plain.varTypes P) (ds ++ gs)).all (· ≤ reachBytes) = true)
    (hval : ∀ (j : Nat) t v, fn.params[j]? = some t → args[j]? = some v → Value.okWide P W .any base t v)
    (hlaid : laidOutB P = true) (hts : ∀ t ∈ fn.params.toList, plainT P true n t = true ∧ P.readableRec t = true ∧ t < P.types.size)
    (hres : fn.resultTypes = #[tb]) (htb : P.underlying tb = some .bool)
    (hfn : ds.length = fn.params.size → s.fn H ds = { results := [.lit (.bool true)], args := ds })
    (hG : ∀ g cs, G g = some cs → Rep W (Env.all W) (.rp cs) (.pointer (some ⟨g, 0, none⟩)))
    (walk : ∀ xs, ShAll P n fn.params.toList xs → Call2 P G f xs [] fun r H' => H' = [] ∧ r = .bool true) :
    Calls P f args W fun e W' => ∃ v, e = .returned v ∧ s.post enc P fn false true false false W args v W' := by
  have hW' := hW
  obtain ⟨p, q, hA, hV, rfl, hfz, hnd⟩ := hW
  rw [hvars] at hV
  obtain ⟨rfl, rfl⟩ := trodVars_none hV
  rw [hvt, List.append_nil, List.append_nil, List.all_eq_true] at hsz
  have hval' : ∀ (j : Nat) (t : TypeId) (v : Value), fn.params.toList[j]? = some t → args.toList[j]? = some v → Value.okWide P W .any base t v := fun j t v ht hv => hval j t v (by rwa [Array.getElem?_toList] at ht) (by rwa [Array.getElem?_toList] at hv)
  have hA0 : DataW.TrodAll enc P W 0 (fun _ => true) true fn.params.toList args.toList ds p := hA
  obtain ⟨xs, hxs, hreps⟩ := open_all n fn.params.toList args.toList ds p (fun t ht => (hts t ht).1)
    (fun i t d ht hd k hk => by simpa using hsz k (mem_weightsEach ht hd hk)) hval' hA0
  have hlen : ds.length = fn.params.size := by
    have : ∀ (ts : List TypeId) (vs : List Value) (ds : List (DataW H)) (p : List MemPlace), DataW.TrodAll enc P W 0 (fun _ => true) true ts vs ds p → ds.length = ts.length := by
      intro ts
      induction ts with
      | nil => intro vs ds p h; cases vs with
        | nil => cases ds with
          | nil => rfl
          | cons d ds => exact h.elim
        | cons v vs => cases h
      | cons t ts ih => intro vs ds p h; cases vs with
        | nil => cases h
        | cons v vs => cases ds with
          | nil => exact h.elim
          | cons d ds =>
            obtain ⟨p1, q1, _, h2, _⟩ := h
            simp [ih vs ds q1 h2]
    simpa using this _ _ _ _ hA0
  have hlt : ∀ x ∈ p, x.block < W.heap.size := fun x hx => hW'.lt x (by simp [hx])
  have hw := walk_all (us := args.toList) (r := .bool true) (fun _ h => h) W hG hreps (walk xs hxs)
  rw [Array.toArray_toList] at hw
  refine hw.mono fun e W' ⟨he, hB⟩ => ?_
  subst he
  refine ⟨_, rfl, post_below (pa := p) (pv := []) hW' ?_ ?_ ?_ rfl hB (ok_one hres rfl (okWide_bool_mk htb _))⟩
  · intro b sp hd
    rw [List.append_nil, hfn hlen, hres]
    exact trodAll_cons_mk (shut_bool htb _) trodAll_mk0
  · intro sp hs
    rw [List.append_nil, hfn hlen]
    exact trodAll_back hlaid _ (fun t ht => (hts t ht).2) _ _ _ hA0 hB hlt sp (fun x hx => hs x (by simp [hx]))
  · intro sp _
    rw [hvars, List.append_nil, hfn hlen]
    rfl
end Go.Abs

/-! Range2 -/
/- Ranges over functions, the iterator walked in place. -/
namespace Go.Abs
open Go.RowKit

variable {P : Program} {G : Nat → Option (List V)}

end Go.Abs
