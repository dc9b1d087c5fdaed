/- Regions that draw their order: quiet operations in any order, the others behind them. -/
import Derived.Test.YteklnflddoekfaaDoorAbsSound11
import Derived.OrdersIn
set_option linter.unusedVariables false
namespace Go.Abs
open Go.RowKit

variable {P : Program} {G : Nat → Option (List V)}

/-! ### one value each -/
/-- A condition that asks for one value. -/
def Det (R : (V → Prop) → Prop) : Prop := ∀ K, R K → ∃ u, K u ∧ ∀ K' : V → Prop, K' u → R K'

theorem det_id (v : V) : Det fun K => K v := fun _ h => ⟨v, h, fun _ h => h⟩
theorem det_false : Det fun _ => False := fun _ h => False.elim h
theorem det_and {p : Prop} {R : (V → Prop) → Prop} (h : Det R) : Det fun K => p ∧ R K := fun _ ⟨hp, hK⟩ =>
  let ⟨u, h1, h2⟩ := h _ hK
  ⟨u, h1, fun K' hk => ⟨hp, h2 K' hk⟩⟩
theorem det_map {R : (V → Prop) → Prop} (f : V → V) (h : Det R) : Det fun K => R fun v => K (f v) := fun K hK =>
  let ⟨u, h1, h2⟩ := h _ hK
  ⟨f u, h1, fun _ hk => h2 _ hk⟩
theorem det_ite (b : Bool) (x y : V) : Det fun K => (b = true → K x) ∧ (b = false → K y) := by
  intro K hK
  cases b with
  | true => exact ⟨x, hK.1 rfl, fun K' hk => ⟨fun _ => hk, fun h => Bool.noConfusion h⟩⟩
  | false => exact ⟨y, hK.2 rfl, fun K' hk => ⟨fun h => Bool.noConfusion h, fun _ => hk⟩⟩
theorem det_ex {α : Type} {p : α → Prop} {F : α → V} : Det fun K => ∃ a, p a ∧ K (F a) := fun _ ⟨a, h1, h2⟩ => ⟨F a, h2, fun _ hk => ⟨a, h1, hk⟩⟩

theorem det_loadCells (t : TypeId) (vs : List V) : Det fun K => evLoadCells P t vs K := by
  unfold evLoadCells
  cases tk P t with
  | none => exact det_false
  | some x =>
    obtain ⟨b, n⟩ := x
    cases b with
    | true => exact det_and (det_id _)
    | false => cases vs with
      | nil => exact det_false
      | cons v vs => exact det_id _

theorem det_load (t : TypeId) (σ : St) (x : V) : Det fun K => evLoad P t σ K x := by
  cases x with
  | ptr id off =>
    simp only [evLoad]
    split
    · exact det_loadCells _ _
    · exact det_false
  | rp cs => exact det_map V.strip (det_loadCells _ _)
  | _ => exact det_false

theorem det_int (op : BinOp) (k : IntKind) (a b : Int) : Det fun K => evInt op k a b K := by
  unfold evInt
  cases op <;> first
    | exact det_id _
    | exact det_and (det_id _)
    | exact det_false

theorem det_str (op : BinOp) (a b : List UInt8) : Det fun K => evStr op a b K := by
  unfold evStr
  cases op <;> first
    | exact det_id _
    | exact det_and (det_id _)
    | exact det_false

theorem det_bin (op : BinOp) (t : TypeId) (x y : V) : Det fun K => evBin P op t x y K := by
  unfold evBin
  split
  · split
    · exact det_and (det_id _)
    · exact det_and (det_id _)
    · exact det_and (det_int _ _ _ _)
  · refine det_and ?_
    split
    · exact det_id _
    · exact det_id _
    · exact det_false
  · exact det_str _ _ _
  · refine det_and ?_
    split
    · refine det_and ?_
      split
      · exact det_id _
      · exact det_id _
      · exact det_false
    · exact det_false
  · exact det_false

theorem det_un (op : UnOp) (x : V) : Det fun K => evUn op x K := by
  unfold evUn
  split
  · exact det_id _
  · exact det_id _
  · exact det_false

theorem det_field (t : TypeId) (f : Nat) (x : V) : Det fun K => evField P t f K x := by
  unfold evField
  split
  · split
    · exact det_map V.strip (det_loadCells _ _)
    · exact det_false
  · exact det_false

theorem det_fieldAddr (t : TypeId) (f : Nat) (x : V) : Det fun K => evFieldAddr P t f K x := by
  unfold evFieldAddr
  split
  · split
    · refine det_and ?_
      split
      · exact det_id _
      · exact det_id _
      · exact det_false
    · exact det_false
  · exact det_false

theorem det_index (t : TypeId) (x i : V) : Det fun K => evIndex P t x i K := by
  unfold evIndex
  split
  · split
    · exact det_and (det_and (det_map V.strip (det_loadCells _ _)))
    · exact det_false
  · exact det_and (det_and (fun _ ⟨b, h1, h2⟩ => ⟨_, h2, fun _ hk => ⟨b, h1, hk⟩⟩))
  · exact det_false

theorem det_indexAddr (t : TypeId) (x i : V) : Det fun K => evIndexAddr P t x i K := by
  unfold evIndexAddr
  split
  · split
    · split
      · exact det_and (det_and (det_and (fun _ ⟨b, h1, h2⟩ => ⟨_, h2, fun _ hk => ⟨b, h1, hk⟩⟩)))
      · exact det_and (det_and (det_and (det_id _)))
      · exact det_false
    · split
      · exact det_and (det_and (det_id _))
      · exact det_and (det_and (det_id _))
      · exact det_false
    · exact det_false
  · exact det_false

theorem det_find (k : V) (F : Option (Nat × V) → V) : ∀ (es : List (V × V)) (i : Nat), Det fun K => evFind k (fun r => K (F r)) es i
  | [], _ => det_id _
  | e :: es, i => by
    unfold evFind
    split
    · rename_i b hb
      intro K hK
      cases b with
      | true => exact ⟨_, hK.1 rfl, fun K' hk => ⟨fun _ => hk, fun h => Bool.noConfusion h⟩⟩
      | false =>
        obtain ⟨u, h1, h2⟩ := det_find k F es (i + 1) K (hK.2 rfl)
        exact ⟨u, h1, fun K' hk => ⟨fun h => Bool.noConfusion h, fun _ => h2 K' hk⟩⟩
    · exact det_false

theorem det_lookup (t : TypeId) (key : V) (ok : Bool) (σ : St) (x : V) : Det fun K => evLookup P t key ok σ K x := by
  cases x with
  | mp id =>
    simp only [evLookup]
    split
    · split
      · rename_i z hz
        have h1 := det_find key (fun r => match ok with
          | true => match r with
            | none => .tup [z, .bool false]
            | some (_, v) => .tup [v, .bool true]
          | false => match r with
            | none => z.strip
            | some (_, v) => v.strip)
        cases ok with
        | true =>
          refine det_and ?_
          have := h1 ‹_› 0
          refine fun K hK => ?_
          obtain ⟨u, g1, g2⟩ := this K (by
            refine (congrArg (fun f => evFind key f _ 0) (funext fun r => ?_)).mp hK
            cases r <;> rfl)
          refine ⟨u, g1, fun K' hk => (congrArg (fun f => evFind key f _ 0) (funext fun r => ?_)).mp (g2 K' hk)⟩
          cases r <;> rfl
        | false =>
          refine det_and ?_
          have := h1 ‹_› 0
          refine fun K hK => ?_
          obtain ⟨u, g1, g2⟩ := this K (by
            refine (congrArg (fun f => evFind key f _ 0) (funext fun r => ?_)).mp hK
            cases r <;> rfl)
          refine ⟨u, g1, fun K' hk => (congrArg (fun f => evFind key f _ 0) (funext fun r => ?_)).mp (g2 K' hk)⟩
          cases r <;> rfl
      · exact det_false
    · exact det_false
  | _ => exact det_false

theorem det_build (t : TypeId) (parts : List (Nat × V)) : Det fun K => evBuild P t parts K := by
  unfold evBuild
  split
  · split
    · exact det_id _
    · exact det_false
  · exact det_false

theorem det_buildSlice (t : TypeId) (n : Nat) (parts : List (Nat × V)) : Det fun K => evBuildSlice P t n parts K := by
  unfold evBuildSlice
  split
  · split
    · refine det_and (det_and (det_and ?_))
      split
      · exact det_and (det_id _)
      · exact det_false
    · exact det_false
  · exact det_false

theorem det_len (t : TypeId) (x : V) : Det fun K => evLen P t x K := by
  unfold evLen
  split
  · exact det_and (det_id _)
  · exact det_and (det_id _)
  · exact det_and (det_id _)
  · exact det_false

theorem byteRows_inj : ∀ {l l' : List UInt8}, byteRows l = byteRows l' → l = l'
  | [], [], _ => rfl
  | [], _ :: _, h => by cases h
  | _ :: _, [], h => by cases h
  | b :: l, b' :: l', h => by
    simp only [byteRows, List.map_cons, List.cons.injEq, V.im.injEq, Value.int.injEq, true_and, and_true] at h
    have hb : b = b' := UInt8.toNat_inj.1 (by omega)
    rw [hb, byteRows_inj h.2]

theorem det_convert (src dst : TypeId) (x : V) : Det fun K => evConvert P src dst x K := by
  unfold evConvert
  split
  · exact det_id _
  · exact det_id _
  · exact det_and (det_and fun K ⟨l, h1, h2⟩ => ⟨_, h2, fun K' hk => ⟨l, h1, hk⟩⟩)
  · exact det_false

theorem det_builtin (b : Builtin) (hb : b = .len ∨ b = .min ∨ b = .max) (ts : List TypeId) (dst : Option Tmp) (as : List V) :
    ∃ R : (V → Prop) → Prop, Det R ∧ ∀ (σ : St) (K : V → Prop), R K ↔ evBuiltin P b ts dst as σ fun v τ => τ = σ ∧ K v := by
  rcases hb with rfl | rfl | rfl
  · match as, ts with
    | [x], [t] => exact ⟨fun K => evLen P t x K, det_len _ _, fun σ K => by simp [evBuiltin]⟩
    | [], _ => exact ⟨fun _ => False, det_false, fun σ K => by simp [evBuiltin]⟩
    | _ :: _ :: _, _ => exact ⟨fun _ => False, det_false, fun σ K => by simp [evBuiltin]⟩
    | [_], [] => exact ⟨fun _ => False, det_false, fun σ K => by simp [evBuiltin]⟩
    | [_], _ :: _ :: _ => exact ⟨fun _ => False, det_false, fun σ K => by simp [evBuiltin]⟩
  · by_cases h : ∃ k a k' b, as = [V.im (.int k a), V.im (.int k' b)]
    · obtain ⟨k, a, k', b, rfl⟩ := h
      exact ⟨fun K => k = k' ∧ K (.int k (if b < a then b else a)), det_and (det_id _), fun σ K => by simp [evBuiltin]⟩
    · refine ⟨fun _ => False, det_false, fun σ K => ⟨fun h => h.elim, fun hk => ?_⟩⟩
      unfold evBuiltin at hk
      split at hk <;> first | contradiction | exact h ⟨_, _, _, _, rfl⟩ | exact hk
  · by_cases h : ∃ k a k' b, as = [V.im (.int k a), V.im (.int k' b)]
    · obtain ⟨k, a, k', b, rfl⟩ := h
      exact ⟨fun K => k = k' ∧ K (.int k (if b > a then b else a)), det_and (det_id _), fun σ K => by simp [evBuiltin]⟩
    · refine ⟨fun _ => False, det_false, fun σ K => ⟨fun h => h.elim, fun hk => ?_⟩⟩
      unfold evBuiltin at hk
      split at hk <;> first | contradiction | exact h ⟨_, _, _, _, rfl⟩ | exact hk

/-! ### quiet operations -/
/-- Operations that leave all blocks as they are. -/
def quiet : Op → Bool
  | .move _ | .assign _ | .load .. | .nilCheck _ | .binOp .. | .unOp .. | .makeFunc .. | .fieldAddr .. | .field .. | .index .. | .indexAddr .. | .pick .. | .extract .. | .build .. | .buildSlice .. | .convert .. | .lookup .. => true
  | .call c => match c.callee with
    | .builtin .len | .builtin .min | .builtin .max => true
    | _ => false
  | _ => false

def evQ (P : Program) (G : Nat → Option (List V)) (o : Oper) (σ : St) (K : V → Prop) : Prop :=
  match o.op with
  | .call { callee := .value f, args, .. } => match σ.ev f with
    | .fn (.func g) a b => (∃ fn, P.funcs[g]? = some fn ∧ fn.body.isSome ∧ (fn.name == "runtime.NumGoroutine") = false) ∧
        ∃ u, StCall P G g ((a ++ (args.toList.map σ.ev) ++ b).map V.strip) σ.H (fun r H' => H' = σ.H ∧ r = u) ∧ K u
    | _ => False
  | op => quiet op = true ∧ evOp P G o σ fun v τ => τ = σ ∧ K v

/-- The same operands, the same blocks. -/
def Agree (o : Oper) (σ σ' : St) : Prop := σ'.H = σ.H ∧ ∀ x ∈ o.op.operands, σ'.ev x = σ.ev x

theorem evQ_quiet {o : Oper} {σ : St} (hq : quiet o.op = true) (K : V → Prop) (h : evOp P G o σ fun v τ => τ = σ ∧ K v) :
    ∃ u, K u ∧ ∀ σ', Agree o σ σ' → ∀ K' : V → Prop, K' u → evOp P G o σ' fun v τ => τ = σ' ∧ K' v := by
  have one : ∀ (R : (V → Prop) → Prop), Det R → (evOp P G o σ (fun v τ => τ = σ ∧ K v) → R K) → (∀ σ', Agree o σ σ' → ∀ K' : V → Prop, R K' → evOp P G o σ' fun v τ => τ = σ' ∧ K' v) →
      ∃ u, K u ∧ ∀ σ', Agree o σ σ' → ∀ K' : V → Prop, K' u → evOp P G o σ' fun v τ => τ = σ' ∧ K' v := by
    intro R hR h1 h2
    obtain ⟨u, h3, h4⟩ := hR K (h1 h)
    exact ⟨u, h3, fun σ' ha K' hk => h2 σ' ha K' (h4 K' hk)⟩
  unfold evOp at *
  cases ho : o.op with
  | move x =>
    simp only [ho, true_and] at h one ⊢
    refine one (fun K => K (σ.ev x)) (det_id _) (fun h => h) fun σ' ha K' hk => ?_
    rw [ha.2 x (by simp [ho, Op.operands])]; exact hk
  | assign x =>
    simp only [ho, true_and] at h one ⊢
    refine one (fun K => K (σ.ev x)) (det_id _) (fun h => h) fun σ' ha K' hk => ?_
    rw [ha.2 x (by simp [ho, Op.operands])]; exact hk
  | load t x =>
    simp only [ho, true_and] at h one ⊢
    refine one (fun K => evLoad P t σ K (asRp G (σ.ev x))) (det_load t σ (asRp G (σ.ev x))) (fun h => h) fun σ' ha K' hk => ?_
    rw [ha.2 x (by simp [ho, Op.operands])]
    unfold evLoad at hk ⊢
    rw [ha.1]; exact hk
  | nilCheck x =>
    simp only [ho, true_and] at h one ⊢
    refine one (fun K => match σ.ev x with | .ptr id off => K (.ptr id off) | .rp cs => K (.rp cs) | .fn (.func f) a b => K (.fn (.func f) a b) | .yld id => K (.yld id) | _ => False) ?_ (fun h => h) fun σ' ha K' hk => ?_
    · split
      · exact det_id _
      · exact det_id _
      · exact det_id _
      · exact det_id _
      · exact det_false
    · rw [ha.2 x (by simp [ho, Op.operands])]
      exact hk
  | binOp op t x y t' =>
    simp only [ho, true_and] at h one ⊢
    refine one (fun K => evBin P op t (σ.ev x) (σ.ev y) K) (det_bin op t (σ.ev x) (σ.ev y)) (fun h => h) fun σ' ha K' hk => ?_
    rw [ha.2 x (by simp [ho, Op.operands]), ha.2 y (by simp [ho, Op.operands])]
    exact hk
  | unOp op t x =>
    simp only [ho, true_and] at h one ⊢
    refine one (fun K => evUn op (σ.ev x) K) (det_un op (σ.ev x)) (fun h => h) fun σ' ha K' hk => ?_
    rw [ha.2 x (by simp [ho, Op.operands])]
    exact hk
  | convert src dst x =>
    simp only [ho, true_and] at h one ⊢
    refine one (fun K => evConvert P src dst (σ.ev x) K) (det_convert src dst (σ.ev x)) (fun h => h) fun σ' ha K' hk => ?_
    rw [ha.2 x (by simp [ho, Op.operands])]
    exact hk
  | makeFunc fn a b =>
    simp only [ho, true_and] at h one ⊢
    refine one (fun K => K (V.fn fn (a.toList.map σ.ev) (b.toList.map σ.ev))) (det_id _) (fun h => h) fun σ' ha K' hk => ?_
    rw [List.map_congr_left (fun x hx => ha.2 x (by simp only [ho, Op.operands]; exact Array.mem_append_left _ (Array.mem_toList_iff.1 hx))),
      List.map_congr_left (fun x hx => ha.2 x (by simp only [ho, Op.operands]; exact Array.mem_append_right _ (Array.mem_toList_iff.1 hx)))]
    exact hk
  | fieldAddr t x f =>
    simp only [ho, true_and] at h one ⊢
    refine one (fun K => evFieldAddr P t f K (asRp G (σ.ev x))) (det_fieldAddr t f (asRp G (σ.ev x))) (fun h => h) fun σ' ha K' hk => ?_
    rw [ha.2 x (by simp [ho, Op.operands])]
    exact hk
  | field t x f =>
    simp only [ho, true_and] at h one ⊢
    refine one (fun K => evField P t f K (σ.ev x)) (det_field t f (σ.ev x)) (fun h => h) fun σ' ha K' hk => ?_
    rw [ha.2 x (by simp [ho, Op.operands])]
    exact hk
  | index t x i =>
    simp only [ho, true_and] at h one ⊢
    refine one (fun K => evIndex P t (σ.ev x) (σ.ev i) K) (det_index t (σ.ev x) (σ.ev i)) (fun h => h) fun σ' ha K' hk => ?_
    rw [ha.2 x (by simp [ho, Op.operands]), ha.2 i (by simp [ho, Op.operands])]
    exact hk
  | indexAddr t x i =>
    simp only [ho, true_and] at h one ⊢
    refine one (fun K => evIndexAddr P t (asRp G (σ.ev x)) (σ.ev i) K) (det_indexAddr t (asRp G (σ.ev x)) (σ.ev i)) (fun h => h) fun σ' ha K' hk => ?_
    rw [ha.2 x (by simp [ho, Op.operands]), ha.2 i (by simp [ho, Op.operands])]
    exact hk
  | lookup t x i ok =>
    simp only [ho, true_and] at h one ⊢
    refine one (fun K => evLookup P t (σ.ev i) ok σ K (σ.ev x)) (det_lookup t (σ.ev i) ok σ (σ.ev x)) (fun h => h) fun σ' ha K' hk => ?_
    rw [ha.2 x (by simp [ho, Op.operands]), ha.2 i (by simp [ho, Op.operands])]
    unfold evLookup at hk ⊢
    rw [ha.1]
    exact hk
  | pick c x y =>
    simp only [ho, true_and] at h one ⊢
    refine one (fun K => match σ.ev c with | .im (.bool t) => (t = true → K (σ.ev x)) ∧ (t = false → K (σ.ev y)) | _ => False) ?_ (fun h => h) fun σ' ha K' hk => ?_
    · split
      · exact det_ite _ _ _
      · exact det_false
    · rw [ha.2 c (by simp [ho, Op.operands]), ha.2 x (by simp [ho, Op.operands]), ha.2 y (by simp [ho, Op.operands])]
      exact hk
  | extract x i =>
    simp only [ho, true_and] at h one ⊢
    refine one (fun K => match σ.ev x with | .tup vs => (match vs[i]? with | some v => K v.strip | none => False) | _ => False) ?_ (fun h => h) fun σ' ha K' hk => ?_
    · split
      · split
        · exact det_id _
        · exact det_false
      · exact det_false
    · rw [ha.2 x (by simp [ho, Op.operands])]
      exact hk
  | build t parts =>
    simp only [ho, true_and] at h one ⊢
    refine one (fun K => evBuild P t (parts.toList.map fun (i, x) => (i, σ.ev x)) K) (det_build t _) (fun h => h) fun σ' ha K' hk => ?_
    rw [List.map_congr_left (g := fun (i, x) => (i, σ.ev x)) (fun p hp => by
      rw [ha.2 p.2 (by
        simp only [ho, Op.operands]
        exact List.mem_toArray.2 (List.mem_map.2 ⟨p, hp, rfl⟩))])]
    exact hk
  | buildSlice t n parts =>
    simp only [ho, true_and] at h one ⊢
    refine one (fun K => evBuildSlice P t n (parts.toList.map fun (i, x) => (i, σ.ev x)) K) (det_buildSlice t n _) (fun h => h) fun σ' ha K' hk => ?_
    rw [List.map_congr_left (g := fun (i, x) => (i, σ.ev x)) (fun p hp => by
      rw [ha.2 p.2 (by
        simp only [ho, Op.operands]
        exact List.mem_toArray.2 (List.mem_map.2 ⟨p, hp, rfl⟩))])]
    exact hk
  | call c =>
    obtain ⟨callee, args, ts⟩ := c
    have hmap : ∀ σ', Agree o σ σ' → args.toList.map σ'.ev = args.toList.map σ.ev := fun σ' ha => List.map_congr_left fun x hx => ha.2 x (by
      simp only [ho, Op.operands, Call.operands]
      cases callee <;> simp [Array.mem_toList_iff.1 hx])
    rw [ho] at hq
    cases callee with
    | builtin b =>
      simp only [ho] at h one ⊢
      have hb : b = .len ∨ b = .min ∨ b = .max := by
        cases b <;> simp [quiet] at hq <;> simp
      obtain ⟨R, hR, hiff⟩ := det_builtin (P := P) b hb ts.toList o.dst (args.toList.map σ.ev)
      refine one R hR ((hiff σ K).2) fun σ' ha K' hk => ?_
      rw [hmap σ' ha]
      exact (hiff σ' K').1 hk
    | _ => simp [quiet] at hq
  | _ => rw [ho] at hq; simp [quiet] at hq

end Go.Abs
