/- The walk over abstract states. -/
import Derived.Test.YtdpbkooiibaaaaaGreatDoorAbs2

set_option linter.unusedVariables false
set_option linter.unusedSimpArgs false
/-! Ev3 -/
/- Operations, regions and code, laid out so that reduction alone works them out. -/
namespace Go.Abs
open Go.RowKit

variable {P : Program} {G : Nat → Option (List V)}

/-- A function that may be called. -/
def fnOk (P : Program) (g : FuncId) : Prop := ∃ fn, P.funcs[g]? = some fn ∧ fn.body.isSome ∧ (fn.name == "runtime.NumGoroutine") = false

/-- A call's condition: the function may be called, and its contract. -/
structure Call2 (P : Program) (G : Nat → Option (List V)) (g : FuncId) (args : List V) (H : Heap) (Ψ : V → Heap → Prop) : Prop where
  ok : fnOk P g
  st : StCall P G g args H Ψ

theorem Call2.mono {g : FuncId} {args : List V} {H : Heap} {Ψ Ψ' : V → Heap → Prop} (h : Call2 P G g args H Ψ) (hm : ∀ r H', Ψ r H' → Ψ' r H') : Call2 P G g args H Ψ' := ⟨h.1, h.2.mono hm⟩

def bsel (t a b : Bool) : Bool := match t with | true => a | false => b

def evAppend2 (P : Program) (t t' : TypeId) (d : Nat) (x y : V) (s : S2) (k : V → S2 → Prop) : Prop :=
  match slOf P t with
  | some (el, sz, bytes) => match x, y with
    | .dat es rows fl, .dat es' ys fl' =>
      grd (notInt P t' && Nat.ble 1 sz && (match zeroOf P el with | some z => Nat.beq z.length sz | none => false)) (
      AppOk rows es sz fl ∧ (ys = [] ∨ es' = sz) ∧ (∀ r ∈ ys, r.all V.solid = true) ∧ (rows.length + ys.length) * bytes ≤ maxBytes ∧ rows.length + ys.length ≤ maxBytes ∧
      match fl with
      | .no => False
      | .tight => match fl' with
        | .tight => k (.dat sz (rows ++ ys) (.cls d)) s
        | _ => k (.dat sz (rows ++ ys) (.cls d)) s ∨ ((rows = [] ∧ ys ≠ [] ∧ ∀ r ∈ ys, ∀ v ∈ r, v.strip = v) ∧ k (.arr s.H.length sz ys.length) (s.setH (s.H ++ [some (.cells el ys.flatten)])))
      | .cls c => k (.dat sz (rows ++ ys) (.cls c)) ((s.dem (· == c)).setH (demoteH (· == c) s.H)))
    | _, _ => False
  | none => False

/-! ### maps -/
def evFind2 (k : V) (K : Option (Nat × V) → Prop) : List (V × V) → Nat → Prop
  | [], _ => K none
  | e :: es, i => match keyEq k e.1 with
    | some b => br b (K (some (i, e.2))) (evFind2 k K es (i + 1))
    | none => False

theorem evFind2_imp {k : V} {K K' : Option (Nat × V) → Prop} (hm : ∀ r, K r → K' r) : ∀ (es : List (V × V)) (i : Nat), evFind2 k K es i → evFind k K' es i := by
  intro es
  induction es with
  | nil => intro i h; exact hm _ h
  | cons e es ih =>
    intro i h
    unfold evFind2 at h
    unfold evFind
    split at h
    · rename_i b hb
      rw [hb]
      rw [br_iff] at h
      exact ⟨fun hb => hm _ (h.1 hb), fun hb => ih _ (h.2 hb)⟩
    · exact h.elim

def evInsert2 (P : Program) (t : TypeId) (key x : V) (H : Heap) (K : Heap → Prop) : V → Prop
  | .mp id => match H[id]?, mapOf P t with
    | some (some (.map es c)), some (kt, _) => grd (keyTy P kt key) (evFind2 key (fun r => match r with
      | none => K (H.set id (some (.map (es ++ [(key, x)]) (c + 1))))
      | some (i, _) => K (H.set id (some (.map (es.set i (key, x)) c)))) es 0)
    | _, _ => False
  | _ => False

theorem evInsert2_imp {t : TypeId} {key x m : V} {σ : St} {K : Heap → Prop} {K' : St → Prop} (hm : ∀ H, K H → K' { σ with H := H }) (h : evInsert2 P t key x σ.H K m) : evInsert P t key x σ K' m := by
  cases m with
  | mp id =>
    simp only [evInsert2] at h
    simp only [evInsert]
    split at h
    · rename_i h1 h2
      simp only [h1, h2]
      rw [grd_iff] at h
      refine ⟨h.1, evFind2_imp (fun r hr => ?_) _ _ h.2⟩
      cases r with
      | none => exact hm _ hr
      | some r => exact hm _ hr
    · exact h.elim
  | _ => exact h.elim

def evLookup2 (P : Program) (t : TypeId) (key : V) (ok : Bool) (H : Heap) (K : V → Prop) : V → Prop
  | .mp id => match H[id]?, mapOf P t with
    | some (some (.map es _)), some (kt, et) => match zero1 P et with
      | some z => grd (keyTy P kt key) (evFind2 key (fun r => match ok with
        | true => match r with
          | none => K (.tup [z, .bool false])
          | some (_, v) => K (.tup [v, .bool true])
        | false => match r with
          | none => K z.strip
          | some (_, v) => K v.strip) es 0)
      | none => False
    | _, _ => False
  | _ => False

theorem evLookup2_imp {t : TypeId} {key m : V} {ok : Bool} {σ : St} {K K' : V → Prop} (hm : ∀ v, K v → K' v) (h : evLookup2 P t key ok σ.H K m) : evLookup P t key ok σ K' m := by
  cases m with
  | mp id =>
    simp only [evLookup2] at h
    simp only [evLookup]
    split at h
    · rename_i h1 h2
      simp only [h1, h2]
      split at h
      · rename_i h3
        simp only [h3]
        rw [grd_iff] at h
        refine ⟨h.1, evFind2_imp (fun r hr => ?_) _ _ h.2⟩
        cases ok <;> cases r <;> exact hm _ hr
      · exact h.elim
    · exact h.elim
  | _ => exact h.elim

def evRange2 (P : Program) (t : TypeId) (H : Heap) (K : Heap → Prop) : V → Prop
  | .mp id => match H[id]?, mapOf P t with
    | some (some (.map _ c)), some _ => K (H ++ [some (.iter id c c [])])
    | _, _ => False
  | _ => False

theorem evRange2_imp {t : TypeId} {m : V} {σ : St} {K : Heap → Prop} {k' : V → St → Prop} (hm : ∀ H, K H → k' (.ptr σ.H.length 0) { σ with H := H }) (h : evRange2 P t σ.H K m) : evRange P t σ k' m := by
  cases m with
  | mp id =>
    simp only [evRange2] at h
    simp only [evRange]
    split at h
    · rename_i h1 h2
      simp only [h1, h2]
      exact hm _ h
    · exact h.elim
  | _ => exact h.elim

/-- Of a map's entries one that hasn't been handed out comes, whichever; none comes if there are none. -/
def nextK (es : List (V × V)) (seen : List Nat) (k0 : Prop) (k1 : Nat → V → V → Prop) : Prop :=
  ((∀ (i : Nat), i < es.length → i ∈ seen) → k0) ∧ (∀ (i : Nat) (x : V × V), es[i]? = some x → ¬ i ∈ seen → k1 i x.1 x.2)

def evNext2 (H : Heap) (k0 : Prop) (k1 : V → V → Heap → Prop) : V → Prop
  | .ptr id 0 => match H[id]? with
    | some (some (.iter m since stepped seen)) => match H[m]? with
      | some (some (.map es c)) => grd (Nat.ble c since && Nat.ble since stepped) (nextK es seen k0 fun i x y => k1 x y (H.set id (some (.iter m since c (seen ++ [i])))))
      | _ => False
    | _ => False
  | _ => False

theorem evNext2_imp {m : V} {σ : St} {k0 : Prop} {k1 : V → V → Heap → Prop} {k' : V → St → Prop} (h0 : k0 → k' (.tup [.bool false]) σ) (h1 : ∀ x y H, k1 x y H → k' (.tup [.bool true, x, y]) { σ with H := H }) (h : evNext2 σ.H k0 k1 m) : evNext σ k' m := by
  unfold evNext2 at h
  unfold evNext
  split at h
  · split at h
    · rename_i g1
      simp only [g1]
      split at h
      · rename_i g2
        simp only [g2]
        rw [grd_iff] at h
        exact ⟨h.1, fun hi => h0 (h.2.1 hi), fun i x hx hi => h1 _ _ _ (h.2.2 i x hx hi)⟩
      · exact h.elim
    · exact h.elim
  · exact h.elim

def evEntry2 (H : Heap) (k : V → Prop) : V → Prop
  | .ptr id 0 => match H[id]? with
    | some (some (.iter m _ stepped seen)) => match H[m]?, seen.getLast? with
      | some (some (.map es c)), some i => grd (Nat.beq c stepped) (optK es[i]? fun x => k (.tup [x.1, x.2]))
      | _, _ => False
    | _ => False
  | _ => False

theorem evEntry2_imp {m : V} {σ : St} {k k' : V → Prop} (hm : ∀ v, k v → k' v) (h : evEntry2 σ.H k m) : evEntry σ k' m := by
  unfold evEntry2 at h
  unfold evEntry
  split at h
  · split at h
    · rename_i g1
      simp only [g1]
      split at h
      · rename_i g2 g3
        simp only [g2, g3]
        rw [grd_iff] at h
        obtain ⟨x, hx, hk⟩ := optK_elim h.2
        refine ⟨h.1, ?_⟩
        rw [hx]
        exact hm _ hk
      · exact h.elim
    · exact h.elim
  · exact h.elim

def evNil2 (P : Program) (op : BinOp) (t : TypeId) (x : V) (K : V → Prop) : Prop :=
  grd (slOf P t).isSome (match op with
  | .eql => match x with
    | .dat _ rows _ => ∀ b : Bool, (b = true → rows = []) → K (.bool b)
    | .arr .. => K (.bool false)
    | _ => False
  | .neq => match x with
    | .dat _ rows _ => ∀ b : Bool, (b = false → rows = []) → K (.bool b)
    | .arr .. => K (.bool true)
    | _ => False
  | _ => False)

theorem evNil2_imp {op : BinOp} {t : TypeId} {x : V} {K K' : V → Prop} (hm : ∀ v, K v → K' v) (h : evNil2 P op t x K) : evNil P op t x K' := by
  unfold evNil2 at h
  unfold evNil
  rw [grd_iff] at h
  refine ⟨h.1, ?_⟩
  have h := h.2
  cases op with
  | eql => cases x <;> first | exact fun b hb => hm _ (h b hb) | exact hm _ h | exact h.elim
  | neq => cases x <;> first | exact fun b hb => hm _ (h b hb) | exact hm _ h | exact h.elim
  | _ => exact h.elim

def isStrT (P : Program) (t : TypeId) : Bool := match P.underlying t with
  | some .string => true
  | _ => false

def evSlice2 (P : Program) (t : TypeId) (x : V) (lo hi : Option V) (K : V → Prop) : Prop :=
  match x with
  | .str l => match bnd 0 lo, bnd l.length hi with
    | some a, some b => grd (isStrT P t) ((0 ≤ a ∧ a ≤ b ∧ b ≤ l.length) ∧ K (.str ((l.take b.toNat).drop a.toNat)))
    | _, _ => False
  | .dat es rows _ => match slOf P t, bnd 0 lo, bnd rows.length hi with
    | some (_, s, _), some a, some b => ((rows = [] ∨ es = s) ∧ 0 ≤ a ∧ a ≤ b ∧ b ≤ rows.length) ∧ K (.dat s ((rows.take b.toNat).drop a.toNat) .no)
    | _, _, _ => False
  | .arr id es len => match slOf P t, bnd 0 lo, bnd len hi with
    | some (_, s, _), some a, some b => (es = s ∧ 0 ≤ a ∧ a ≤ b ∧ b ≤ len) ∧ match lo with
      | none => K (.arr id es b.toNat)
      | some _ => K (.sub id es (a.toNat * es) (b.toNat - a.toNat))
    | _, _, _ => False
  | .rp cs => match lo, hi, arrOf P t with
    | none, none, some (n, _, s) => grd (Nat.ble 1 s && Nat.ble (n * s) cs.length) (K (.dat s (chunks s n cs) .no))
    | _, _, _ => False
  | _ => False

theorem evSlice2_imp {t : TypeId} {x : V} {lo hi : Option V} {K : V → Prop} (h : evSlice2 P t x lo hi K) : evSlice P t x lo hi K := by
  unfold evSlice2 at h
  unfold evSlice
  cases x with
  | str l =>
    simp only at h ⊢
    split at h
    · rename_i h1 h2
      rw [h1, h2]
      rw [grd_iff] at h
      refine ⟨?_, h.2⟩
      have := h.1
      unfold isStrT at this
      split at this
      · rename_i hs; exact hs
      · cases this
    · exact h.elim
  | dat es rows fl => exact h
  | rp cs =>
    simp only at h ⊢
    split at h
    · rename_i h1
      rw [h1]
      rw [grd_iff, Bool.and_eq_true, Nat.ble_eq, Nat.ble_eq] at h
      exact ⟨h.1.1, h.1.2, h.2⟩
    · exact h.elim
  | arr id es len => exact h
  | _ => exact h.elim

def evMake2 (P : Program) (t : TypeId) (n c : V) (H : Heap) (k : V → Heap → Prop) : Prop :=
  match slOf P t, n, c with
  | some (e, s, bytes), .im (.int _ a), .im (.int _ b) => match zeroOf P e with
    | some z => grd (Nat.beq z.length s && Nat.ble 1 s) ((b = a ∧ 0 ≤ a ∧ a ≤ maxBytes ∧ bytes * a ≤ maxBytes) ∧ k (.arr H.length s a.toNat) (H ++ [some (.cells e (List.replicate a.toNat z).flatten)]))
    | none => False
  | _, _, _ => False

theorem evMake2_imp {t : TypeId} {n c : V} {H : Heap} {k k' : V → Heap → Prop} (hm : ∀ v H, k v H → k' v H) (h : evMake2 P t n c H k) : evMake P t n c H k' := by
  unfold evMake2 at h
  unfold evMake
  split at h
  · rename_i h1
    rw [h1]
    simp only
    split at h
    · rename_i z hz
      rw [grd_iff, Bool.and_eq_true, Nat.beq_eq, Nat.ble_eq] at h
      rw [hz]
      exact ⟨h.1.1, h.1.2, h.2.1, hm _ _ h.2.2⟩
    · exact h.elim
  · exact h.elim

def evOp2' (P : Program) (G : Nat → Option (List V)) (o : Oper) (s : S2) (H : Heap) (k : V → S2 → Prop) : Prop :=
  match o.op with
  | .move x | .assign x => force (s.ev x) fun v => k v s
  | .alloc t => match zeroOf P t with
    | some cs => k (.ptr H.length 0) (s.setH (H ++ [some (.cells t cs)]))
    | none => False
  | .box t x => force (s.ev x) fun v => match v.cellsF with
    | some cs => k (.ptr H.length 0) (s.setH (H ++ [some (.cells t cs)]))
    | none => False
  | .build t parts => evBuild2 P t (parts.toList.map fun (i, x) => (i, s.ev x)) fun v => k v s
  | .buildSlice t len parts => evBuildSlice2 P t len (parts.toList.map fun (i, x) => (i, s.ev x)) fun v => k v s
  | .load t a => evLoad2 P t H (fun v => force v fun v => k v s) (asRp G (s.ev a))
  | .store t a x => force (s.ev x) fun v => evStore2 P t H v (fun H => k (.tup []) (s.setH H)) (s.ev a)
  | .nilCheck x => match s.ev x with
    | .ptr id off => k (.ptr id off) s
    | .rp cs => k (.rp cs) s
    | .fn (.func f) a b => k (.fn (.func f) a b) s
    | .yld id => k (.yld id) s
    | _ => False
  | .binOp op t x y _ => match isNilC y with
    | true => evNil2 P op t (s.ev x) fun v => k v s
    | false => evBin2 P op t (s.ev x) (s.ev y) fun v => k v s
  | .slice t x lo hi none => evSlice2 P t (asRp G (s.ev x)) (lo.map s.ev) (hi.map s.ev) fun v => k v s
  | .slice t x lo hi (some mx) => evSlice3 P t (asRp G (s.ev x)) (lo.map s.ev) (hi.map s.ev) (s.ev mx) fun v => k v s
  | .makeSlice t n c => evMake2 P t (s.ev n) (s.ev c) H fun v H => k v (s.setH H)
  | .unOp op _ x => evUn op (s.ev x) fun v => k v s
  | .convert src dst x => evConvert P src dst H (s.ev x) fun v => k v s
  | .makeFunc fn a b => k (.fn fn (a.toList.map s.ev) (b.toList.map s.ev)) s
  | .fieldAddr t x f => evFieldAddr2 P t f (fun v => k v s) (asRp G (s.ev x))
  | .field t x f => evField2 P t f (fun v => force v fun v => k v s) (s.ev x)
  | .index t x i => evIndex2 P t (s.ev x) (s.ev i) fun v => force v fun v => k v s
  | .indexAddr t x i => evIndexAddr2 P t (asRp G (s.ev x)) (s.ev i) fun v => k v s
  | .pick c x y => match s.ev c with
    | .im (.bool t) => match s.ev x, s.ev y with
      | .im (.bool a), .im (.bool b) => k (.bool (bsel t a b)) s
      | x, y => br t (force x fun v => k v s) (force y fun v => k v s)
    | _ => False
  | .extract x i => match s.ev x with
    | .tup vs => match vs[i]? with
      | some v => force v.strip fun v => k v s
      | none => False
    | _ => False
  | .makeMap _ none => k (.mp H.length) (s.setH (H ++ [some (.map [] 0)]))
  | .mapUpdate t m x y | .insert t m x y => force (s.ev x) fun key => force (s.ev y) fun v => evInsert2 P t key v H (fun H => k (.tup []) (s.setH H)) (s.ev m)
  | .lookup t x i ok => force (s.ev i) fun key => evLookup2 P t key ok H (fun v => force v fun v => k v s) (s.ev x)
  | .range t x => evRange2 P t H (fun H' => k (.ptr H.length 0) (s.setH H')) (s.ev x)
  | .next x false => evNext2 H (k (.tup [.bool false]) s) (fun x y H => k (.tup [.bool true, x, y]) (s.setH H)) (s.ev x)
  | .entry x => evEntry2 H (fun v => k v s) (s.ev x)
  | .call c => match c.callee with
    | .builtin .len => match c.args.toList, c.argTypes.toList with
      | [x], [t] => evLen2 P t (s.ev x) fun v => k v s
      | _, _ => False
    | .builtin .append => match c.args.toList, c.argTypes.toList with
      | [x, y], [t, t'] => evAppend2 P t t' (o.dst.getD 0) (s.ev x) (s.ev y) s k
      | _, _ => False
    | .builtin .clear => match c.args.toList, c.argTypes.toList with
      | [x], [t] => evClear P t (s.ev x) H fun H => k (.tup []) (s.setH H)
      | _, _ => False
    | .builtin .min => match c.args.toList with
      | [x, y] => match s.ev x, s.ev y with
        | .im (.int kd a), .im (.int kd' b) => grd (kindEq kd kd') (k (.int kd (if b < a then b else a)) s)
        | _, _ => False
      | _ => False
    | .builtin .max => match c.args.toList with
      | [x, y] => match s.ev x, s.ev y with
        | .im (.int kd a), .im (.int kd' b) => grd (kindEq kd kd') (k (.int kd (if b > a then b else a)) s)
        | _, _ => False
      | _ => False
    | .value f => match s.ev f with
      | .fn (.func g) a b => Call2 P G g ((a ++ (c.args.toList.map s.ev) ++ b).map V.strip) H fun r H' => force r fun r => k r ((s.dem (heapCls H)).setH H')
      | .yld id => StYield P G id ((c.args.toList.map s.ev).map V.strip) H fun r H' => force r fun r => k r ((s.dem (heapCls H)).setH H')
      | _ => False
    | _ => False
  | _ => False

def evOp2 (P : Program) (G : Nat → Option (List V)) (o : Oper) (s : S2) (k : V → S2 → Prop) : Prop :=
  match s with
  | ⟨n, b, u, H, ds, c⟩ => evOp2' P G o ⟨n, b, u, H, ds, c⟩ H k

theorem evOp2_eq {o : Oper} {s : S2} {k : V → S2 → Prop} : evOp2 P G o s k = evOp2' P G o s s.H k := by cases s; rfl

theorem evLoad_mono {t : TypeId} {σ : St} {k k' : V → Prop} {x : V} (hm : ∀ v, k v → k' v) (h : evLoad P t σ k x) : evLoad P t σ k' x := by
  obtain ⟨u, h1, h2⟩ := det_load t σ x k h
  exact h2 k' (hm u h1)

theorem Det.mono {R : (V → Prop) → Prop} (hd : Det R) {k k' : V → Prop} (hm : ∀ v, k v → k' v) (h : R k) : R k' := by
  obtain ⟨u, h1, h2⟩ := hd k h
  exact h2 k' (hm u h1)

theorem evClear_mono {t : TypeId} {x : V} {H : Heap} {k k' : Heap → Prop} (hm : ∀ H', k H' → k' H') (h : evClear P t x H k) : evClear P t x H k' := by
  unfold evClear at *
  split at h
  · split at h
    · split at h
      · exact ⟨h.1, hm _ h.2⟩
      · exact h.elim
    · exact h.elim
  · exact h.elim

theorem evStore2_mono {t : TypeId} {H : Heap} {v : V} {k k' : Heap → Prop} {x : V} (hm : ∀ H', k H' → k' H') (h : evStore2 P t H v k x) : evStore2 P t H v k' x := by
  cases x with
  | ptr id off =>
    simp only [evStore2] at h ⊢
    split at h
    · rename_i h1
      try simp only [h1]
      split at h
      · rename_i h2 h3
        try simp only [h2, h3]
        rw [grd_iff] at h ⊢
        exact ⟨h.1, hm _ h.2⟩
      · exact h.elim
    · exact h.elim
  | _ => exact h.elim

theorem evOp2_core {o : Oper} {s : S2} {k : V → S2 → Prop} {K : V → St → Prop} (hw : s.Wf) (ok : ∀ v, k v s → K v s.st) (hK : quiet o.op = false → ∀ v s', s'.Wf → s'.n = s.n → k v s' → K v s'.st) (h : evOp2 P G o s k) : evOp P G o s.st K := by
  have hev : ∀ x, s.st.ev x = s.ev x := fun x => S2.ev_eq hw x
  have okH : quiet o.op = false → ∀ v H, k v { s with H := H } → K v { s.st with H := H } := fun hq v H hv => hK hq v { s with H := H } ⟨hw.n, hw.d⟩ rfl hv
  have hmap : ∀ l : List Operand, l.map s.st.ev = l.map s.ev := fun l => List.map_congr_left fun x _ => hev x
  have hmap2 : ∀ l : List (Nat × Operand), (l.map fun (i, x) => (i, s.st.ev x)) = l.map fun (i, x) => (i, s.ev x) := fun l => List.map_congr_left fun x _ => by obtain ⟨i, y⟩ := x; show (i, s.st.ev y) = (i, s.ev y); rw [hev]
  rw [evOp2_eq] at h
  unfold evOp2' at h
  simp only [evAppend2, S2.setH_eq] at h
  unfold evOp
  cases ho : o.op with
  | move x => simp only [ho, force_iff] at h ⊢; rw [hev]; exact ok _ h
  | assign x => simp only [ho, force_iff] at h ⊢; rw [hev]; exact ok _ h
  | alloc t =>
    simp only [ho] at h ⊢
    split at h
    · rename_i h1; simp only [h1]; exact okH (by rw [ho]; rfl) _ _ h
    · exact h.elim
  | box t x =>
    simp only [ho, force_iff] at h ⊢
    rw [hev]
    split at h
    · rename_i h1; simp only [h1]; exact okH (by rw [ho]; rfl) _ _ h
    · exact h.elim
  | build t parts => simp only [ho] at h ⊢; rw [hmap2]; exact (det_build t _).mono ok (evBuild2_imp h)
  | buildSlice t len parts => simp only [ho] at h ⊢; rw [hmap2]; exact (det_buildSlice t len _).mono ok (evBuildSlice2_imp h)
  | load t x => simp only [ho, force_iff] at h ⊢; rw [hev]; exact evLoad_mono ok (evLoad2_imp (σ := s.st) h)
  | store t x y =>
    simp only [ho, force_iff] at h ⊢
    rw [hev, hev]
    exact evStore2_imp (σ := s.st) (evStore2_mono (fun H hk => okH (by rw [ho]; rfl) _ H hk) h)
  | nilCheck x =>
    simp only [ho] at h ⊢
    rw [hev]
    generalize s.ev x = vx at h ⊢
    split at h <;> first | exact ok _ h | exact h.elim
  | binOp op t x y t' =>
    simp only [ho] at h ⊢
    rw [hev, hev]
    cases hn : isNilC y with
    | true => rw [hn] at h; exact evNil2_imp (fun v hv => ok v hv) h
    | false => rw [hn] at h; exact (det_bin op t _ _).mono ok (evBin2_imp h)
  | slice t x lo hi mx =>
    cases mx with
    | some r =>
      simp only [ho] at h ⊢
      have h1 : lo.map s.st.ev = lo.map s.ev := by cases lo <;> simp [hev]
      have h2 : hi.map s.st.ev = hi.map s.ev := by cases hi <;> simp [hev]
      rw [hev, hev, h1, h2]
      exact (det_slice3 t _ _ _ _).mono ok h
    | none =>
      simp only [ho] at h ⊢
      have h1 : lo.map s.st.ev = lo.map s.ev := by cases lo <;> simp [hev]
      have h2 : hi.map s.st.ev = hi.map s.ev := by cases hi <;> simp [hev]
      rw [hev, h1, h2]
      exact (det_slice t _ _ _).mono ok (evSlice2_imp h)
  | makeSlice t n c =>
    simp only [ho] at h ⊢
    rw [hev, hev]
    exact evMake2_imp (fun v H hk => okH (by rw [ho]; rfl) v H hk) h
  | unOp op t x => simp only [ho] at h ⊢; rw [hev]; exact (det_un op _).mono ok h
  | convert src dst x => simp only [ho] at h ⊢; rw [hev]; exact (det_convert src dst s.H _).mono ok h
  | makeFunc fn a b => simp only [ho] at h ⊢; rw [hmap, hmap]; exact ok _ h
  | fieldAddr t x f => simp only [ho] at h ⊢; rw [hev]; exact (det_fieldAddr t f _).mono ok (evFieldAddr2_imp h)
  | field t x f => simp only [ho, force_iff] at h ⊢; rw [hev]; exact (det_field t f _).mono ok (evField2_imp h)
  | index t x i => simp only [ho, force_iff] at h ⊢; rw [hev, hev]; exact (det_index t _ _).mono ok (evIndex2_imp h)
  | indexAddr t x i => simp only [ho] at h ⊢; rw [hev, hev]; exact (det_indexAddr t _ _).mono ok (evIndexAddr2_imp h)
  | pick c x y =>
    simp only [ho, force_iff] at h ⊢
    rw [hev, hev, hev]
    split at h
    · rename_i t hc
      simp only [hc]
      split at h
      · rename_i a b hx hy
        rw [hx, hy]
        refine ⟨fun ht => ?_, fun ht => ?_⟩ <;> subst ht <;> exact ok _ h
      · rw [br_iff] at h
        exact ⟨fun ht => ok _ (h.1 ht), fun ht => ok _ (h.2 ht)⟩
    · exact h.elim
  | extract x i =>
    simp only [ho, force_iff] at h ⊢
    rw [hev]
    split at h
    · rename_i vs hx
      simp only [hx]
      split at h
      · rename_i v hv
        simp only [hv]
        exact ok _ h
      · exact h.elim
    · exact h.elim
  | makeMap t r =>
    cases r with
    | none => simp only [ho] at h ⊢; exact okH (by rw [ho]; rfl) _ _ h
    | some r => simp only [ho] at h
  | mapUpdate t m x y =>
    simp only [ho, force_iff] at h ⊢
    rw [hev, hev, hev]
    exact evInsert2_imp (σ := s.st) (fun H hk => okH (by rw [ho]; rfl) _ H hk) h
  | insert t m x y =>
    simp only [ho, force_iff] at h ⊢
    rw [hev, hev, hev]
    exact evInsert2_imp (σ := s.st) (fun H hk => okH (by rw [ho]; rfl) _ H hk) h
  | lookup t x i b =>
    simp only [ho, force_iff] at h ⊢
    rw [hev, hev]
    exact evLookup2_imp (σ := s.st) (fun v hv => ok v hv) h
  | range t x =>
    simp only [ho] at h ⊢
    rw [hev]
    exact evRange2_imp (σ := s.st) (fun H hk => okH (by rw [ho]; rfl) _ H hk) h
  | next x b =>
    cases b with
    | false =>
      simp only [ho] at h ⊢
      rw [hev]
      exact evNext2_imp (σ := s.st) (fun hk => ok _ hk) (fun x y H hk => okH (by rw [ho]; rfl) _ H hk) h
    | true => simp only [ho] at h
  | entry x =>
    simp only [ho] at h ⊢
    rw [hev]
    exact evEntry2_imp (σ := s.st) (fun v hv => ok v hv) h
  | call c =>
    obtain ⟨callee, args, ts⟩ := c
    simp only [ho] at h ⊢
    cases callee with
    | builtin b =>
      simp only at h ⊢
      cases b with
      | len =>
        simp only at h ⊢
        split at h
        · rename_i x t ha ht
          rw [ha, ht]
          simp only [List.map_cons, List.map_nil, evBuiltin, hev]
          exact (det_len t _).mono ok (evLen2_imp h)
        · exact h.elim
      | append =>
        simp only at h ⊢
        split at h
        · rename_i x y t t' ha ht
          rw [ha, ht]
          simp only [List.map_cons, List.map_nil, evBuiltin, hev]
          unfold evAppend
          split at h
          · rename_i el sz bytes hsl
            simp only [hsl]
            generalize s.ev x = vx at h ⊢
            generalize s.ev y = vy at h ⊢
            split at h
            · rename_i es rows fl es' ys fl'
              rw [grd_iff, Bool.and_eq_true, Bool.and_eq_true, Nat.ble_eq] at h
              obtain ⟨⟨⟨h1, h2⟩, h3⟩, h4, h5, h6, h7, h8, h9⟩ := h
              have hz : (zeroOf P el).map List.length = some sz := by
                split at h3
                · rename_i z hz
                  rw [hz]
                  simpa [Nat.beq_eq] using h3
                · cases h3
              refine ⟨h1, h2, hz, h4, h5, h6, h7, h8, ?_⟩
              cases fl with
              | no => exact h9
              | tight =>
                have alt : (k (.dat sz (rows ++ ys) (.cls (o.dst.getD 0))) s ∨ ((rows = [] ∧ ys ≠ [] ∧ ∀ r ∈ ys, ∀ v ∈ r, v.strip = v) ∧ k (.arr s.H.length sz ys.length) { s with H := s.H ++ [some (.cells el ys.flatten)] })) → 
                    (K (.dat sz (rows ++ ys) (.cls (o.dst.getD 0))) s.st ∨ ((rows = [] ∧ ys ≠ [] ∧ ∀ r ∈ ys, ∀ v ∈ r, v.strip = v) ∧ K (.arr s.st.H.length sz ys.length) { s.st with H := s.st.H ++ [some (.cells el ys.flatten)] })) := by
                  rintro (h | ⟨h1, h⟩)
                  · exact .inl (ok _ h)
                  · exact .inr ⟨h1, okH (by rw [ho]; rfl) _ _ h⟩
                cases fl' with
                | tight => exact ok _ h9
                | no => exact alt h9
                | cls c => exact alt h9
              | cls c =>
                have := hK (by rw [ho]; rfl) _ { s.dem (· == c) with H := demoteH (· == c) s.H } ⟨(S2.dem_wf hw _).n, (S2.dem_wf hw _).d⟩ (by unfold S2.dem; split <;> rfl) h9
                have he : ({ s.dem (· == c) with H := demoteH (· == c) s.H } : S2).st = { s.st with tmps := s.st.tmps.map (V.demote (· == c)), H := demoteH (· == c) s.st.H } := by
                  have := S2.dem_st (s := s) (· == c)
                  simp only [S2.st] at this ⊢
                  simp only [St.mk.injEq] at this ⊢
                  exact ⟨this.1, trivial, this.2.2.1, this.2.2.2⟩
                rw [he] at this
                exact this
            · exact h.elim
          · exact h.elim
        · exact h.elim
      | clear =>
        simp only at h ⊢
        split at h
        · rename_i x t ha ht
          rw [ha, ht]
          simp only [List.map_cons, List.map_nil, evBuiltin, hev]
          exact evClear_mono (fun H' hk => okH (by rw [ho]; rfl) _ _ hk) h
        · exact h.elim
      | min =>
        simp only at h ⊢
        split at h
        · rename_i x y ha
          rw [ha]
          simp only [List.map_cons, List.map_nil, hev]
          split at h
          · rename_i h1 h2
            rw [h1, h2]
            rw [grd_iff, kindEq, decide_eq_true_eq] at h
            exact ⟨h.1, ok _ h.2⟩
          · exact h.elim
        · exact h.elim
      | max =>
        simp only at h ⊢
        split at h
        · rename_i x y ha
          rw [ha]
          simp only [List.map_cons, List.map_nil, hev]
          split at h
          · rename_i h1 h2
            rw [h1, h2]
            rw [grd_iff, kindEq, decide_eq_true_eq] at h
            exact ⟨h.1, ok _ h.2⟩
          · exact h.elim
        · exact h.elim
      | _ => exact h.elim
    | value f =>
      simp only [force_iff] at h ⊢
      rw [hev, hmap]
      have after : ∀ r H', k r { s.dem (heapCls s.H) with H := H' } → K r (s.st.afterCall H') := fun r H' hk => by
        have h1 := hK (by rw [ho]; rfl) _ { s.dem (heapCls s.H) with H := H' } ⟨(S2.dem_wf hw _).n, (S2.dem_wf hw _).d⟩ (by unfold S2.dem; split <;> rfl) hk
        have he : ({ s.dem (heapCls s.H) with H := H' } : S2).st = s.st.afterCall H' := by
          have := S2.dem_st (s := s) (heapCls s.H)
          simp only [S2.st, St.afterCall] at this ⊢
          simp only [St.mk.injEq] at this ⊢
          exact ⟨this.1, trivial, this.2.2.1, this.2.2.2⟩
        rw [he] at h1
        exact h1
      split at h
      · rename_i g a b hf
        simp only [hf]
        exact ⟨h.1, h.2.mono fun r H' hk => after r H' hk⟩
      · rename_i id hf
        simp only [hf]
        exact h.mono fun r H' hk => after r H' hk
      · exact h.elim
    | invoke r m => exact h.elim
  | _ => simp only [ho] at h

theorem evOp2_imp {o : Oper} {s : S2} {k : V → S2 → Prop} {K : V → St → Prop} (hw : s.Wf) (hK : ∀ v s', s'.Wf → s'.n = s.n → k v s' → K v s'.st) (h : evOp2 P G o s k) : evOp P G o s.st K :=
  evOp2_core hw (fun v hv => hK v s hw rfl hv) (fun _ => hK) h

end Go.Abs

/-! Ev4 -/
/- Regions, code, functions and loops, laid out so that reduction alone works them out. -/
namespace Go.Abs
open Go.RowKit

variable {P : Program} {G : Nat → Option (List V)}

def put2 (s : S2) (d : Option Tmp) (v : V) (k : S2 → Prop) : Prop :=
  match d, s with
  | none, s => k s
  | some d, ⟨n, b, u, H, ds, c⟩ => grd (Nat.blt d n) (k ⟨n, b, (d, v) :: u, H, ds, c⟩)

theorem put2_imp {s : S2} {d : Option Tmp} {v : V} {k : S2 → Prop} (hw : s.Wf) (h : put2 s d v k) : ∃ s', s'.st = s.st.put d v ∧ s'.Wf ∧ s'.n = s.n ∧ k s' := by
  cases d with
  | none =>
    refine ⟨s, rfl, hw, rfl, ?_⟩
    cases s; exact h
  | some d =>
    have h : grd (Nat.blt d s.n) (k { s with upd := (d, v) :: s.upd }) := by cases s; exact h
    rw [grd_iff] at h
    refine ⟨{ s with upd := (d, v) :: s.upd }, rfl, ⟨hw.n, fun x hx => ?_⟩, rfl, h.2⟩
    simp only [List.mem_cons] at hx
    rcases hx with rfl | hx
    · exact Nat.lt_of_lt_of_le (Nat.blt_eq.mp h.1) hw.n
    · exact hw.d x hx

/-- A guard's temporary, now that its value is known. -/
def shadow (s : S2) (d : Nat) (b : Bool) : S2 := match s with | ⟨n, bs, u, H, ds, c⟩ => ⟨n, bs, (d, .bool b) :: u, H, ds, c⟩
theorem shadow_eq (s : S2) (d : Nat) (b : Bool) : shadow s d b = { s with upd := (d, .bool b) :: s.upd } := by cases s; rfl

theorem shadow_st {s : S2} (hw : s.Wf) {d : Nat} {b : Bool} (h : look s.upd s.base d = .bool b) : (shadow s d b).st = s.st ∧ (shadow s d b).Wf := by
  have h1 : (app s.upd s.base).getD d .bad = .bool b := by rw [look_eq s.base.length s.base (Nat.le_refl _) d s.upd hw.d]; exact h
  -- a temporary that is known is there
  have hlt : d < (app s.upd s.base).length := by
    rcases Nat.lt_or_ge d (app s.upd s.base).length with h2 | h2
    · exact h2
    · rw [List.getD_eq_getElem?_getD, List.getElem?_eq_none h2] at h1
      cases h1
  have hset : (app s.upd s.base).set d (.bool b) = app s.upd s.base := by
    rw [List.getD_eq_getElem?_getD, List.getElem?_eq_getElem hlt] at h1
    simp only [Option.getD_some] at h1
    rw [← h1]
    exact List.set_getElem_self hlt
  rw [shadow_eq]
  refine ⟨by simp only [S2.st, app, hset], hw.n, fun x hx => ?_⟩
  simp only [List.mem_cons] at hx
  rcases hx with rfl | hx
  · rwa [app_length] at hlt
  · exact hw.d x hx

/-- By the recursor itself: so the kernel meets the same terms as the elaborator. -/
noncomputable def evOps2 (P : Program) (G : Nat → Option (List V)) (all : List Oper) (l : List Oper) : S2 → (S2 → Prop) → Prop :=
  List.rec (motive := fun _ => S2 → (S2 → Prop) → Prop) (fun s k => k s) (fun o _ ih s k =>
    match o.guard with
    | none => evOp2 P G o s fun v s' => put2 s' o.dst v fun s'' => ih s'' k
    | some (j, want) => match (all[j]?).bind (·.dst) with
      | none => False
      | some d => match look s.upd s.base d with
        | .im (.bool b) => match want with
          | true => br b (evOp2 P G o (shadow s d true) fun v s' => put2 s' o.dst v fun s'' => ih s'' k) (put2 (shadow s d false) o.dst (.tup []) fun s'' => ih s'' k)
          | false => br b (put2 (shadow s d true) o.dst (.tup []) fun s'' => ih s'' k) (evOp2 P G o (shadow s d false) fun v s' => put2 s' o.dst v fun s'' => ih s'' k)
        | .tup [] => put2 s o.dst (.tup []) fun s'' => ih s'' k
        | _ => False) l

theorem evOps2_cons (all : List Oper) (o : Oper) (rest : List Oper) (s : S2) (k : S2 → Prop) : evOps2 P G all (o :: rest) s k =
    match o.guard with
    | none => evOp2 P G o s fun v s' => put2 s' o.dst v fun s'' => evOps2 P G all rest s'' k
    | some (j, want) => match (all[j]?).bind (·.dst) with
      | none => False
      | some d => match look s.upd s.base d with
        | .im (.bool b) => match want with
          | true => br b (evOp2 P G o (shadow s d true) fun v s' => put2 s' o.dst v fun s'' => evOps2 P G all rest s'' k) (put2 (shadow s d false) o.dst (.tup []) fun s'' => evOps2 P G all rest s'' k)
          | false => br b (put2 (shadow s d true) o.dst (.tup []) fun s'' => evOps2 P G all rest s'' k) (evOp2 P G o (shadow s d false) fun v s' => put2 s' o.dst v fun s'' => evOps2 P G all rest s'' k)
        | .tup [] => put2 s o.dst (.tup []) fun s'' => evOps2 P G all rest s'' k
        | _ => False := rfl

theorem yieldedV_look {all : List Oper} {s : S2} (hw : s.Wf) {j : Nat} {d : Nat} (hd : (all[j]?).bind (·.dst) = some d) {v : V} (hv : v ≠ .bad) (h : look s.upd s.base d = v) : yieldedV all s.st j = some v := by
  unfold yieldedV
  rw [hd]
  simp only
  have h1 : (app s.upd s.base).getD d .bad = v := by rw [look_eq s.base.length s.base (Nat.le_refl _) d s.upd hw.d]; exact h
  show (app s.upd s.base)[d]? = some v
  rw [List.getD_eq_getElem?_getD] at h1
  cases hg : (app s.upd s.base)[d]? with
  | none => rw [hg] at h1; exact absurd h1.symm hv
  | some x => rw [hg] at h1; simp only [Option.getD_some] at h1; rw [h1]

theorem evOps2_imp {all : List Oper} {k : S2 → Prop} {K : St → Prop} (n : Nat) (hK : ∀ s' : S2, s'.Wf → s'.n = n → k s' → K s'.st) : ∀ (rest : List Oper) (s : S2), s.Wf → s.n = n → evOps2 P G all rest s k → evOps P G all rest s.st K := by
  intro rest
  induction rest with
  | nil => intro s hw hn h; exact hK s hw hn h
  | cons o rest ih =>
    intro s hw hn h
    have run : ∀ s : S2, s.Wf → s.n = n → evOp2 P G o s (fun v s' => put2 s' o.dst v fun s'' => evOps2 P G all rest s'' k) → evOp P G o s.st (fun v σ' => evOps P G all rest (σ'.put o.dst v) K) := by
      intro s hw hn h
      refine evOp2_imp hw (fun v s' hw' hn' h' => ?_) h
      obtain ⟨s'', h1, h2, h3, h4⟩ := put2_imp hw' h'
      rw [← h1]
      exact ih s'' h2 (h3.trans (hn'.trans hn)) h4
    have skip : ∀ s : S2, s.Wf → s.n = n → put2 s o.dst (.tup []) (fun s'' => evOps2 P G all rest s'' k) → evOps P G all rest (s.st.put o.dst (.tup [])) K := by
      intro s hw hn h
      obtain ⟨s'', h1, h2, h3, h4⟩ := put2_imp hw h
      rw [← h1]
      exact ih s'' h2 (h3.trans hn) h4
    rw [evOps2_cons] at h
    simp only [evOps]
    cases hg : o.guard with
    | none =>
      rw [hg] at h
      exact run s hw hn h
    | some g =>
      obtain ⟨j, want⟩ := g
      rw [hg] at h
      simp only at h ⊢
      split at h
      · exact h.elim
      · rename_i d hd
        split at h
        · rename_i b hl
          rw [yieldedV_look hw hd (by simp) hl]
          simp only
          cases want with
          | true =>
            simp only [br_iff] at h
            refine ⟨fun hb => ?_, fun hb => ?_⟩
            · subst hb
              obtain ⟨h1, h2⟩ := shadow_st hw hl
              have := run _ h2 hn (h.1 rfl)
              rwa [h1] at this
            · have hb' : b = false := by simpa using hb
              subst hb'
              obtain ⟨h1, h2⟩ := shadow_st hw hl
              have := skip _ h2 hn (h.2 rfl)
              rwa [h1] at this
          | false =>
            simp only [br_iff] at h
            refine ⟨fun hb => ?_, fun hb => ?_⟩
            · subst hb
              obtain ⟨h1, h2⟩ := shadow_st hw hl
              have := run _ h2 hn (h.2 rfl)
              rwa [h1] at this
            · have hb' : b = true := by simpa using hb
              subst hb'
              obtain ⟨h1, h2⟩ := shadow_st hw hl
              have := skip _ h2 hn (h.1 rfl)
              rwa [h1] at this
        · rename_i hl
          rw [yieldedV_look hw hd (by simp) hl]
          exact skip s hw hn h
        · exact h.elim

/-! ### code -/
/-- What is asked behind a piece of code that is walked by its own rule. -/
def toΦ (n : Nat) (Φ : Exit → S2 → Prop) (x : Exit) (σ : St) : Prop := ∃ s : S2, σ = s.st ∧ s.Wf ∧ s.n = n ∧ Φ x s

noncomputable def evCode2 (P : Program) (G : Nat → Option (List V)) (c : Code) : (Exit → S2 → Prop) → S2 → Prop :=
  Code.rec (motive := fun _ => (Exit → S2 → Prop) → S2 → Prop)
    (fun Φ s => Φ .normal s)
    (fun id ops d Φ s => match d with
      | false => evOps2 P G ops.toList ops.toList s (Φ .normal)
      | true => s.Wf → WPc P G (.region id ops true) (toΦ s.n Φ) s.st)
    (fun _ _ iha ihb Φ s => iha (fun x s' => match x with
      | .normal => ihb Φ s'
      | x => Φ x s') s)
    (fun c _ _ iha ihb Φ s => match s.ev c with
      | .im (.bool t) => br t (iha Φ s) (ihb Φ s)
      | _ => False)
    (fun id _ ih Φ s => ih (fun x s' => match x with
      | .exit i => match Nat.beq i id with
        | true => Φ .normal s'
        | false => Φ (.exit i) s'
      | x => Φ x s') s)
    (fun c _ Φ s => s.Wf → WPc P G (.loop c) (toΦ s.n Φ) s.st)
    (fun f ps a c _ _ Φ s => s.Wf → WPc P G (.rangeFunc f ps a c) (toΦ s.n Φ) s.st)
    (fun id Φ s => Φ (.exit id) s)
    (fun c _ Φ s => s.Wf → WPc P G (.scope c) (toΦ s.n Φ) s.st)
    (fun _ Φ s => Φ .normal s)
    (fun l Φ s => Φ (.goto l) s)
    (fun Φ s => Φ .ret s)
    (fun _ _ _ => False) c

theorem evCode2_cond (c : Operand) (a b : Code) (Φ : Exit → S2 → Prop) (s : S2) : evCode2 P G (.cond c a b) Φ s = match s.ev c with
    | .im (.bool t) => br t (evCode2 P G a Φ s) (evCode2 P G b Φ s)
    | _ => False := rfl

theorem wpc_seq {x y : Code} {Φ : Exit → St → Prop} {σ : St} (h : WPc P G x (fun ex σ' => match ex with | .normal => WPc P G y Φ σ' | ex => Φ ex σ') σ) : WPc P G (.seq x y) Φ σ := by
  intro a w e hst
  refine wpIn_seq ?_
  refine wpIn_mono (h a w e hst) ?_
  rintro ex a' w' ⟨σ', e', hΦ, hc, hst', hx⟩
  have hro : σ'.cur.map e'.ρ = σ.cur.map e.ρ := cur_same hst hc hx
  cases ex with
  | normal =>
    have := hΦ a' w' e' hst'
    rw [hro] at this
    refine wpIn_mono this ?_
    rintro ex2 a2 w2 ⟨σ2, e2, hΦ2, hc2, hst2, hx2⟩
    exact ⟨σ2, e2, hΦ2, hc2.trans hc, hst2, hx.trans hx2⟩
  | _ => exact ⟨σ', e', hΦ, hc, hst', hx⟩

theorem wpc_cond {c : Operand} {x y : Code} {Φ : Exit → St → Prop} {σ : St} {t : Bool} (hc : σ.ev c = .im (.bool t)) (h1 : t = true → WPc P G x Φ σ) (h2 : t = false → WPc P G y Φ σ) : WPc P G (.cond c x y) Φ σ := by
  intro a w e hst
  have hv := hst.ev c
  rw [hc] at hv
  have ht : a.eval c = .bool t := rep_im hv
  refine wpIn_cond ht ?_
  cases t with
  | true => exact h1 rfl a w e hst
  | false => exact h2 rfl a w e hst

theorem wpc_block {id : Nat} {c : Code} {Φ : Exit → St → Prop} {σ : St} (h : WPc P G c (fun x σ' => match x with
    | .exit i => if i = id then Φ .normal σ' else Φ (.exit i) σ'
    | x => Φ x σ') σ) : WPc P G (.block id c) Φ σ := by
  intro a w e hst
  refine wpIn_block ?_
  refine wpIn_mono (h a w e hst) ?_
  rintro ex a' w' ⟨σ', e', hΦ, hc, hst', hx⟩
  cases ex with
  | exit i =>
    simp only at hΦ
    by_cases hi : i = id
    · rw [if_pos hi] at hΦ
      have : (Exit.inBlock id (fun x a' w' => ∃ σ' e', Φ x σ' ∧ σ'.cur = σ.cur ∧ RSt G σ' a' w' e' ∧ Ext σ.H w e σ'.H w' e') (.exit i) a' w') = (∃ σ' e', Φ .normal σ' ∧ σ'.cur = σ.cur ∧ RSt G σ' a' w' e' ∧ Ext σ.H w e σ'.H w' e') := by
        simp [Exit.inBlock, hi]
      rw [this]
      exact ⟨σ', e', hΦ, hc, hst', hx⟩
    · rw [if_neg hi] at hΦ
      have : (Exit.inBlock id (fun x a' w' => ∃ σ' e', Φ x σ' ∧ σ'.cur = σ.cur ∧ RSt G σ' a' w' e' ∧ Ext σ.H w e σ'.H w' e') (.exit i) a' w') = (∃ σ' e', Φ (.exit i) σ' ∧ σ'.cur = σ.cur ∧ RSt G σ' a' w' e' ∧ Ext σ.H w e σ'.H w' e') := by
        simp [Exit.inBlock, hi]
      rw [this]
      exact ⟨σ', e', hΦ, hc, hst', hx⟩
  | _ => exact ⟨σ', e', hΦ, hc, hst', hx⟩

theorem evCode2_sound (c : Code) (n : Nat) : ∀ (Φ : Exit → S2 → Prop) (s : S2), s.Wf → s.n = n → evCode2 P G c Φ s → WPc P G c (toΦ n Φ) s.st := by
  have base : ∀ (c : Code) (x : Exit) (Φ : Exit → S2 → Prop) (s : S2), s.Wf → s.n = n → evCode P G c (fun y σ => y = x ∧ σ = s.st) s.st → Φ x s → WPc P G c (toΦ n Φ) s.st := by
    intro c x Φ s hw hn h hΦ
    refine (evCode_sound c _ _ h).mono ?_
    rintro y σ ⟨rfl, rfl⟩
    exact ⟨s, rfl, hw, hn, hΦ⟩
  induction c with
  | skip => intro Φ s hw hn h; exact base _ .normal Φ s hw hn ⟨rfl, rfl⟩ h
  | label l => intro Φ s hw hn h; exact base _ .normal Φ s hw hn ⟨rfl, rfl⟩ h
  | exit i => intro Φ s hw hn h; exact base _ (.exit i) Φ s hw hn ⟨rfl, rfl⟩ h
  | goto l => intro Φ s hw hn h; exact base _ (.goto l) Φ s hw hn ⟨rfl, rfl⟩ h
  | ret => intro Φ s hw hn h; exact base _ .ret Φ s hw hn ⟨rfl, rfl⟩ h
  | refuse w => intro Φ s hw hn h; exact h.elim
  | loop c ih => intro Φ s hw hn h; subst hn; exact h hw
  | scope c ih => intro Φ s hw hn h; subst hn; exact h hw
  | rangeFunc f ps a c iha ihc => intro Φ s hw hn h; subst hn; exact h hw
  | region id ops d =>
    intro Φ s hw hn h
    cases d with
    | true => subst hn; exact h hw
    | false => exact evCode_sound (.region id ops false) _ _ (evOps2_imp n (fun s' hw' hn' h' => ⟨s', rfl, hw', hn', h'⟩) _ s hw hn h)
  | seq a b iha ihb =>
    intro Φ s hw hn h
    refine wpc_seq ((iha _ s hw hn h).mono ?_)
    rintro ex σ' ⟨s', rfl, hw', hn', h'⟩
    cases ex with
    | normal => exact ihb Φ s' hw' hn' h'
    | _ => exact ⟨s', rfl, hw', hn', h'⟩
  | cond c a b iha ihb =>
    intro Φ s hw hn h
    rw [evCode2_cond] at h
    split at h
    · rename_i t hc
      rw [br_iff] at h
      exact wpc_cond (by rw [S2.ev_eq hw, hc]) (fun ht => iha Φ s hw hn (h.1 ht)) (fun ht => ihb Φ s hw hn (h.2 ht))
    · exact h.elim
  | block id c ih =>
    intro Φ s hw hn h
    refine wpc_block ((ih _ s hw hn h).mono ?_)
    rintro ex σ' ⟨s', rfl, hw', hn', h'⟩
    cases ex with
    | exit i =>
      simp only at h' ⊢
      by_cases hi : i = id
      · subst hi
        rw [if_pos rfl]
        rw [Nat.beq_refl] at h'
        exact ⟨s', rfl, hw', hn', h'⟩
      · rw [if_neg hi]
        have : Nat.beq i id = false := by
          cases hb : Nat.beq i id with
          | false => rfl
          | true => exact absurd (Nat.eq_of_beq_eq_true hb) hi
        rw [this] at h'
        exact ⟨s', rfl, hw', hn', h'⟩
    | _ => exact ⟨s', rfl, hw', hn', h'⟩

/-! ### functions -/
def readV2 (P : Program) (s : S2) (k : V → Prop) : ResultVar → Prop
  | .tmp t => force (look s.upd s.base t) k
  | .cell a t => evLoad2 P t s.H (fun v => force v k) (look s.upd s.base a)

def readVs2 (P : Program) (s : S2) : List ResultVar → List V → (List V → Prop) → Prop
  | [], acc, k => k acc
  | r :: rs, acc, k => readV2 P s (fun v => readVs2 P s rs (acc ++ [v]) k) r

def isDefd (H : Heap) (id : Nat) : Bool := match H[id]? with
  | some (some .defd) => true
  | _ => false

def nodupB : List Nat → Bool
  | [] => true
  | x :: xs => !xs.any (Nat.beq x) && nodupB xs

theorem nodupB_spec : ∀ l : List Nat, nodupB l = true → l.Nodup
  | [], _ => .nil
  | x :: xs, h => by
    simp only [nodupB, Bool.and_eq_true, Bool.not_eq_true'] at h
    refine List.nodup_cons.2 ⟨fun hx => ?_, nodupB_spec xs h.2⟩
    have := List.any_eq_false.1 h.1 x hx
    simp at this

def retΦ2' (P : Program) (fn : Func) (Ψ : V → Heap → Prop) (s : S2) : Prop :=
  match s with
  | ⟨n, b, u, H, [], c⟩ => readVs2 P ⟨n, b, u, H, [], c⟩ fn.results.toList [] fun vs => match vs with
    | [v] => Ψ v.strip H
    | vs => Ψ (.tup vs) H
  | ⟨n, b, u, H, d :: ds, c⟩ => grd ((d :: ds).all (isDefd H) && nodupB (d :: ds)) (readVs2 P ⟨n, b, u, (d :: ds).foldl (fun H id => H.set id none) H, [], c⟩ fn.results.toList [] fun vs => match vs with
    | [v] => Ψ v.strip ((d :: ds).foldl (fun H id => H.set id none) H)
    | vs => Ψ (.tup vs) ((d :: ds).foldl (fun H id => H.set id none) H))

def retΦ2 (P : Program) (fn : Func) (Ψ : V → Heap → Prop) : Exit → S2 → Prop
  | .normal, s | .ret, s => retΦ2' P fn Ψ s
  | _, _ => False

theorem readVs2_imp {s : S2} (hw : s.Wf) (k : List V → Prop) : ∀ (rs : List ResultVar) (acc : List V), readVs2 P s rs acc k → readVs P s.st rs acc k := by
  intro rs
  induction rs with
  | nil => intro acc h; exact h
  | cons r rs ih =>
    intro acc h
    simp only [readVs2] at h
    simp only [readVs]
    cases r with
    | tmp t =>
      simp only [readV2, force_iff] at h
      simp only [readV]
      rw [show (s.st.tmps.getD t .bad) = look s.upd s.base t from S2.ev_eq hw (.tmp t)]
      exact ih _ h
    | cell a t =>
      simp only [readV2, force_iff] at h
      simp only [readV]
      rw [show (s.st.tmps.getD a .bad) = look s.upd s.base a from S2.ev_eq hw (.tmp a)]
      exact evLoad_mono (fun v hv => ih _ hv) (evLoad2_imp (σ := s.st) h)

theorem isDefd_spec {H : Heap} {id : Nat} (h : isDefd H id = true) : H[id]? = some (some .defd) := by
  unfold isDefd at h
  split at h
  · assumption
  · cases h

theorem retΦ2_imp {fn : Func} {Ψ : V → Heap → Prop} {x : Exit} {s : S2} (hw : s.Wf) (h : retΦ2 P fn Ψ x s) : retΦ P fn Ψ x s.st := by
  have main : retΦ2' P fn Ψ s → retΦ P fn Ψ .ret s.st := by
    intro h
    unfold retΦ
    obtain ⟨n, b, u, H, ds, c⟩ := s
    cases ds with
    | nil =>
      have hnd : ([] : List Nat).Nodup := .nil
      have hno : ∀ id ∈ ([] : List Nat), H[id]? = some (some Blk.defd) := fun id hid => by cases hid
      exact And.intro hno (And.intro hnd (readVs2_imp hw _ fn.results.toList [] h))
    | cons d ds =>
      simp only [retΦ2'] at h
      rw [grd_iff, Bool.and_eq_true] at h
      have h1 : ∀ id ∈ d :: ds, H[id]? = some (some Blk.defd) := fun id hid => isDefd_spec (List.all_eq_true.1 h.1.1 id hid)
      exact And.intro h1 (And.intro (nodupB_spec _ h.1.2) (readVs2_imp (s := ⟨n, b, u, (d :: ds).foldl (fun H id => H.set id none) H, [], c⟩) ⟨hw.n, hw.d⟩ _ fn.results.toList [] h.2))
  cases x with
  | normal => exact main h
  | ret => exact main h
  | _ => exact h.elim

def begin2 (fn : Func) (args : List V) (H : Heap) : S2 := { n := fn.ntmps, base := args ++ List.replicate (fn.ntmps - args.length) (.tup []), upd := [], H := H, defs := [], cur := none }

theorem begin2_wf (fn : Func) (args : List V) (H : Heap) : (begin2 fn args H).Wf := ⟨by simp [begin2]; omega, fun x hx => by cases hx⟩

/-- A function's contract, out of its body. -/
theorem stCall2 {f : FuncId} {fn : Func} {c : Code} {args : List V} {H : Heap} {Ψ : V → Heap → Prop} (hf : P.funcs[f]? = some fn) (hb : fn.body = some c) (hname : (fn.name == "runtime.NumGoroutine") = false)
    (hk : evCode2 P G c (retΦ2 P fn Ψ) (begin2 fn args H)) : Call2 P G f args H Ψ := by
  refine ⟨⟨fn, hf, by rw [hb]; rfl, hname⟩, ?_⟩
  intro w e us hR hargs
  refine callsIn_of_wp_marks hf hb trivial ?_ rfl
  have hst : RSt G (begin_ fn args H) { tmps := us.toArray ++ Array.replicate (fn.ntmps - us.toArray.size) undef, defers := [] } w e := by
    refine ⟨hR, ?_, rfl, fun id hid => by simp [begin_] at hid, fun id hid => by simp [begin_] at hid⟩
    have := reps_begin hargs fn.ntmps
    simpa [begin_] using this
  have hbeg : (begin2 fn args H).st = begin_ fn args H := rfl
  refine wpIn_mono (evCode2_sound c fn.ntmps _ _ (begin2_wf fn args H) rfl hk _ w e (hbeg ▸ hst)) ?_
  rintro x a' w' ⟨σ', e', ⟨s', rfl, hw', hn', hΦ⟩, hc, hst', hx⟩
  have := retΦ2_imp hw' hΦ
  cases x with
  | normal => exact retΦ_leaves hst' this hx
  | ret => exact retΦ_leaves hst' this hx
  | _ => exact this.elim

/-! ### loops -/
/-- Temporaries that say less, one by one. -/
def vwl (m : Nat) (u : List (Nat × V)) (b : List V) : Nat → List V → Prop
  | _, [] => True
  | i, v :: vs => match v with
    | .bad => vwl m u b (i + 1) vs
    | v => VW m (look u b i) v ∧ vwl m u b (i + 1) vs

theorem vwl_spec {m : Nat} {u : List (Nat × V)} {b : List V} (hd : ∀ x ∈ u, x.1 < b.length) : ∀ (vs : List V) (i : Nat), vwl m u b i vs → i + vs.length = b.length → VWs m ((app u b).drop i) vs := by
  intro vs
  induction vs with
  | nil =>
    intro i _ hl
    have : (app u b).drop i = [] := List.drop_of_length_le (by rw [app_length]; simp at hl; omega)
    rw [this]
    exact .nil
  | cons v vs ih =>
    intro i h hl
    simp only [List.length_cons] at hl
    have hi : i < (app u b).length := by rw [app_length]; omega
    rw [List.drop_eq_getElem_cons hi]
    have hlook : (app u b)[i] = look u b i := by
      rw [← look_eq b.length b (Nat.le_refl _) i u hd, List.getD_eq_getElem?_getD, List.getElem?_eq_getElem hi]
      rfl
    have key : VW m (look u b i) v ∧ vwl m u b (i + 1) vs := by
      unfold vwl at h
      split at h
      · exact ⟨.bad _, h⟩
      · exact h
    refine .cons ?_ (ih (i + 1) key.2 (by omega))
    rw [hlook]
    exact key.1

/-- The state at a loop's head: temporaries written out. -/
def headS (n : Nat) (vs : List V) (H : Heap) (defs : List Nat) (cur : Option Nat) : S2 := { n := n, base := vs, upd := [], H := H, defs := defs, cur := cur }

/-- To say less: temporaries and blocks. -/
theorem weak2 {s : S2} {vs : List V} {H : Heap} {cur : Option Nat} (hw : s.Wf) (hl : vs.length = s.base.length) (ht : vwl H.length s.upd s.base 0 vs) (hb : BWs H.length s.H H) (hd : ∀ id ∈ s.defs, id < H.length) (hcur : s.cur = cur) (hc : ∀ id, cur = some id → id < H.length) :
    Weak G s.st (headS s.n vs H s.defs cur).st := by
  subst hcur
  have := Weak.mk' (G := G) (σ := s.st) vs H (by
    have := vwl_spec hw.d vs 0 ht (by omega)
    rw [List.drop_zero] at this
    exact this) hb hd hc
  exact this


/-- A loop: an invariant over states, with a number that every round lowers. -/
theorem wpc_loop2 {c : Code} {Φ : Exit → S2 → Prop} {s : S2} {n : Nat} (I : Nat → S2 → Prop) (m0 : Nat) (s0 : S2) (hw0 : Weak G s.st s0.st) (h0 : I m0 s0)
    (hI : ∀ m s1, I m s1 → s1.Wf ∧ s1.n = n ∧ s.H.length ≤ s1.H.length ∧ s1.cur = s.cur)
    (round : ∀ m s1, I m s1 → evCode2 P G c (fun x s' => match x with
      | .normal => s'.Wf → ∃ m' s2, m' < m ∧ Weak G s'.st s2.st ∧ I m' s2
      | x => Φ x s') s1) : WPc P G (.loop c) (toΦ n Φ) s.st := by
  intro a w e h
  have hws := hw0
  obtain ⟨e0, hst0, hx0⟩ := hw0.2 a w e h
  refine wpIn_loop_rel (m := m0) (fun m a' w' => ∃ s1 e1, I m s1 ∧ RSt G s1.st a' w' e1 ∧ Ext s.st.H w e s1.st.H w' e1) ?_ ⟨s0, e0, h0, hst0, hx0 _ _ _ (hI _ _ h0).2.2.1 (.refl _ _ _)⟩
  rintro m a1 w1 ⟨s1, e1, hI1, hst1, hx1⟩
  obtain ⟨hw1, hn1, hl1, hc1⟩ := hI m s1 hI1
  have := evCode2_sound c n _ s1 hw1 hn1 (round m s1 hI1) a1 w1 e1 hst1
  rw [cur_same (σ := s.st) (σ' := s1.st) h hc1 hx1] at this
  refine wpIn_mono this ?_
  rintro x a2 w2 ⟨σ2, e2, ⟨s2, rfl, hw2, hn2, hΦ⟩, hc2, hst2, hx2⟩
  cases x with
  | normal =>
    obtain ⟨m', s3, hlt, hwk, hI3⟩ := hΦ hw2
    obtain ⟨e3, hst3, hx3⟩ := hwk.2 a2 w2 e2 hst2
    exact ⟨m', hlt, s3, e3, hI3, hst3, hx3 _ _ _ (hI _ _ hI3).2.2.1 (hx1.trans hx2)⟩
  | _ => exact ⟨s2.st, e2, ⟨s2, rfl, hw2, hn2, hΦ⟩, hc2.trans hc1, hst2, hx1.trans hx2⟩

/-- The heap's first blocks. -/
theorem bws_app {H X : Heap} (hs : Scoped H) : BWs H.length (H ++ X) H := BWs.of fun i y hy => by
  refine ⟨y, by rw [List.getElem?_append_left (List.getElem?_eq_some_iff.1 hy).1]; exact hy, ?_⟩
  cases y with
  | none => exact .drop _
  | some b => exact hs i b hy

theorem Scoped.bws {H : Heap} (hs : Scoped H) : BWs H.length H H := by
  have := bws_app (X := []) hs
  rwa [List.append_nil] at this

theorem VW.int {n : Nat} {k : IntKind} {a b : Int} (h : a = b) : VW n (.im (.int k a)) (.im (.int k b)) := h ▸ .im _
theorem IterOf.mk {f : FuncId} {pre caps : List V} {items : List (List V)} {K : Heap → Prop} (h : ∀ (id n : Nat) (Inv : Nat → Heap → Prop) (Fin : Heap → Prop) (H : Heap),
    (∀ i H', Inv i H' → H'.length = n ∧ id < n ∧ K H') →
    (∀ H', Fin H' → H'.length = n) →
    (∀ (i : Nat) (x : List V) (H' : Heap), items[i]? = some x → Inv i H' → Scoped H' → StYield P G id x H' fun r H'' => H''.length = H'.length ∧ ((r = .bool true ∧ Inv (i + 1) H'') ∨ (r = .bool false ∧ Fin H''))) →
    (∀ H', Inv items.length H' → Fin H') → Inv 0 H → Scoped H →
    StCall P G f ((pre ++ [V.yld id] ++ caps).map V.strip) H fun _ H' => Fin H') : IterOf P G f pre caps items K :=
  fun id n Inv Fin H h1 h2 h3 h4 h5 => StCall.inScope fun hs => h id n Inv Fin H h1 h2 h3 h4 h5 hs

theorem evLoadCells2_congr {t : TypeId} {vs vs' : List V} {k : V → Prop} (h : vs = vs') (hk : evLoadCells2 P t vs' k) : evLoadCells2 P t vs k := h ▸ hk

theorem Call2.free {f : FuncId} {args : List V} {Ψ : V → Prop} (ha : ∀ v ∈ args, v.Free) (h : Call2 P G f args [] fun r _ => r.Free ∧ Ψ r) (H : Heap) :
    Call2 P G f args H fun r H' => H' = H ∧ Ψ r := ⟨h.1, h.2.free ha H⟩

theorem Call2.cut {f : FuncId} {args : List V} {H : Heap} {Ψ : V → Heap → Prop} (h : Call2 P G f args H fun r H' => ∃ H1, Cut H.length H H' H1 ∧ VW H.length r r ∧ Ψ r H1) : Call2 P G f args H Ψ := ⟨h.1, h.2.cut⟩

theorem wrap_i64 {n : Int} (h1 : -9223372036854775808 ≤ n) (h2 : n < 9223372036854775808) : IntKind.i64.wrap n = n := by
  simp [IntKind.wrap, IntKind.bits, IntKind.signed]
  omega


theorem VW.free {n : Nat} {v : V} (h : v.Free) : VW n v v := by
  induction h with
  | im v => exact .im v
  | str l => exact .str l
  | dat es rows fl _ => exact .dat es rows fl
  | rp cs => exact .rp cs
  | agg cs h ih => exact .agg cs cs rfl fun i v v' h1 h2 => by rw [h1] at h2; cases h2; exact ih v (List.mem_of_getElem? h1)
  | tup cs h ih => exact .tup cs cs rfl fun i v v' h1 h2 => by rw [h1] at h2; cases h2; exact ih v (List.mem_of_getElem? h1)
  | fn f a b ha hb iha ihb => exact .fn f a b (fun i v h => iha v (List.mem_of_getElem? h)) (fun i v h => ihb v (List.mem_of_getElem? h))
  | bad => exact .bad _

theorem Cut.app {n : Nat} {H H1 X : Heap} (hs : Scoped H1) (hl : H1.length = n) : Cut n H (H1 ++ X) H1 := ⟨X, rfl, hl, fun id b hb => .inr (by rw [← hl]; exact hs id b hb)⟩
theorem Cut.self {n : Nat} {H H1 : Heap} (hs : Scoped H1) (hl : H1.length = n) : Cut n H H1 H1 := by
  have := Cut.app (H := H) (X := []) hs hl
  rwa [List.append_nil] at this

theorem VW.unit (n : Nat) : VW n (.tup []) (.tup []) := .tup [] [] rfl fun i v v' h => by simp at h

theorem VW.mono {n m : Nat} (hm : n ≤ m) {v v' : V} (h : VW n v v') : VW m v v' := by
  induction h with
  | bad v => exact .bad v
  | im v => exact .im v
  | str l => exact .str l
  | ptr id off h => exact .ptr id off (by omega)
  | mp id h => exact .mp id (by omega)
  | yld id h => exact .yld id (by omega)
  | arr id es len h => exact .arr id es len (by omega)
  | sub id es off len h => exact .sub id es off len (by omega)
  | nil es es' fl fl' h => exact .nil es es' fl fl' h
  | dat es rows fl => exact .dat es rows fl
  | no es rows fl => exact .no es rows fl
  | cls es rows c => exact .cls es rows c
  | rows es rows rows' fl hl hr hh => exact .rows es rows rows' fl hl hr hh
  | rp cs => exact .rp cs
  | fn f a b ha hb iha ihb => exact .fn f a b iha ihb
  | agg cs cs' hl h ih => exact .agg cs cs' hl ih
  | tup cs cs' hl h ih => exact .tup cs cs' hl ih

theorem VWs.mono {n m : Nat} (hm : n ≤ m) {vs vs' : List V} (h : VWs n vs vs') : VWs m vs vs' := by
  induction h with
  | nil => exact .nil
  | cons h _ ih => exact .cons (h.mono hm) ih

theorem BW.mono {n m : Nat} (hm : n ≤ m) {b b' : Option Blk} (h : BW n b b') : BW m b b' := by
  cases h with
  | drop b => exact .drop b
  | cells t vs vs' h => exact .cells t vs vs' (h.mono hm)
  | map es es' c h1 h2 => exact .map es es' c (h1.mono hm) (h2.mono hm)
  | defd => exact .defd
  | iter m since stepped seen hd => exact .iter m since stepped seen (by omega)
  | loop st pend tmps tmps' ps a b d h hd => exact .loop st pend tmps tmps' ps a b d (h.mono hm) (by omega)

theorem Scoped.app {H L : Heap} (hs : Scoped H) (hb : ∀ b : Blk, some b ∈ L → BW (H.length + L.length) (some b) (some b)) : Scoped (H ++ L) := by
  intro id b h
  rw [List.length_append]
  by_cases hid : id < H.length
  · rw [List.getElem?_append_left hid] at h
    exact (hs id b h).mono (by omega)
  · rw [List.getElem?_append_right (by omega)] at h
    exact hb b (List.mem_of_getElem? h)

theorem VW.ptrE {n i j o : Nat} (h : i = j) (hj : j < n) : VW n (.ptr i o) (.ptr j o) := by
  subst h
  exact .ptr i o hj

/-- A block of cells in which no block is named. -/
theorem BW.free {n : Nat} {t : TypeId} {vs : List V} (h : ∀ v ∈ vs, v.Free) : BW n (some (.cells t vs)) (some (.cells t vs)) :=
  .cells t vs vs (.self fun _ v hv => .free (h v (List.mem_of_getElem? hv)))

theorem free_tup2 {a b : V} (h1 : a.Free) (h2 : b.Free) : (V.tup [a, b]).Free := .tup _ fun v hv => by
  simp only [List.mem_cons, List.not_mem_nil, or_false] at hv
  rcases hv with rfl | rfl
  · exact h1
  · exact h2

/-! ### blocks behind a heap that isn't known -/
theorem ga0 {α : Type} (H L : List α) (a : α) : (H ++ a :: L)[H.length]? = some a := by
  simp
theorem ga1 {α : Type} (H L : List α) (a b : α) : (H ++ a :: b :: L)[H.length + 1]? = some b := get_app H (a :: b :: L) 1
theorem ga2 {α : Type} (H L : List α) (a b c : α) : (H ++ a :: b :: c :: L)[H.length + 2]? = some c := get_app H (a :: b :: c :: L) 2
theorem ga3 {α : Type} (H L : List α) (a b c d : α) : (H ++ a :: b :: c :: d :: L)[H.length + 3]? = some d := get_app H (a :: b :: c :: d :: L) 3
theorem ga4 {α : Type} (H L : List α) (a b c d e : α) : (H ++ a :: b :: c :: d :: e :: L)[H.length + 4]? = some e := get_app H (a :: b :: c :: d :: e :: L) 4
theorem ga5 {α : Type} (H L : List α) (a b c d e f : α) : (H ++ a :: b :: c :: d :: e :: f :: L)[H.length + 5]? = some f := get_app H (a :: b :: c :: d :: e :: f :: L) 5
theorem sa0 {α : Type} (H L : List α) (a x : α) : (H ++ a :: L).set H.length x = H ++ x :: L := by
  simp
theorem sa1 {α : Type} (H L : List α) (a b x : α) : (H ++ a :: b :: L).set (H.length + 1) x = H ++ a :: x :: L := set_app H (a :: b :: L) 1 x
theorem sa2 {α : Type} (H L : List α) (a b c x : α) : (H ++ a :: b :: c :: L).set (H.length + 2) x = H ++ a :: b :: x :: L := set_app H (a :: b :: c :: L) 2 x
theorem sa3 {α : Type} (H L : List α) (a b c d x : α) : (H ++ a :: b :: c :: d :: L).set (H.length + 3) x = H ++ a :: b :: c :: x :: L := set_app H (a :: b :: c :: d :: L) 3 x
theorem sa4 {α : Type} (H L : List α) (a b c d e x : α) : (H ++ a :: b :: c :: d :: e :: L).set (H.length + 4) x = H ++ a :: b :: c :: d :: x :: L := set_app H (a :: b :: c :: d :: e :: L) 4 x
theorem sa5 {α : Type} (H L : List α) (a b c d e f x : α) : (H ++ a :: b :: c :: d :: e :: f :: L).set (H.length + 5) x = H ++ a :: b :: c :: d :: e :: x :: L := set_app H (a :: b :: c :: d :: e :: f :: L) 5 x

end Go.Abs

/-! Ev5 -/
/- Ranges over iterators and draws, laid out so that reduction alone works them out. -/
namespace Go.Abs
open Go.RowKit

variable {P : Program} {G : Nat → Option (List V)}

theorem Call2.frame {f : FuncId} {args : List V} {H : Heap} {Ψ : V → Heap → Prop} (X : Heap) (hs : Scoped H) (ha : ∀ v ∈ args, VW H.length v v ∧ v.strip = v) (hX : ∀ c, heapCls X c = true → heapCls H c = false)
    (h : Call2 P G f args H fun r H' => H'.length = H.length ∧ Ψ r H') : Call2 P G f args (H ++ X) fun r H'' => ∃ H', H'' = H' ++ X ∧ H'.length = H.length ∧ Scoped H' ∧ Ψ r H' :=
  ⟨h.1, h.2.frame X hs ha hX⟩

theorem Call2.inScope {f : FuncId} {args : List V} {H : Heap} {Ψ : V → Heap → Prop} (hf : fnOk P f) (h : Scoped H → Call2 P G f args H Ψ) : Call2 P G f args H Ψ := ⟨hf, StCall.inScope fun hs => (h hs).2⟩

theorem WPc.weak {c : Code} {Φ : Exit → St → Prop} {σ σ0 : St} (hw : Weak G σ σ0) (hl : σ.H.length ≤ σ0.H.length) (h : WPc P G c Φ σ0) : WPc P G c Φ σ := by
  intro a w e hst
  obtain ⟨e0, hst0, hx0⟩ := hw.2 a w e hst
  have hx := hx0 _ _ _ hl (.refl _ _ _)
  have := h a w e0 hst0
  rw [cur_same hst hw.1 hx] at this
  refine wpIn_mono this ?_
  rintro x a2 w2 ⟨σ2, e2, hΦ, hc2, hst2, hx2⟩
  exact ⟨σ2, e2, hΦ, hc2.trans hw.1, hst2, hx.trans hx2⟩

/-- What a round's body owes. -/
def bodyΦ2 (n : Nat) (T : List V) (H0 : Heap) (defs : List Nat) (H : Heap) (ps : Array Tmp) (as bd : Code) (Jn : Heap → Prop) (Φ : Exit → S2 → Prop) (x : Exit) (s2 : S2) : Prop :=
  ∃ H2 X, s2.H = loopH .busy H2 T ps as bd ++ X ∧ H2.length = H0.length ∧
    (∀ (id : Nat) (b : Blk), H2[id]? = some (some b) → H[id]? = some (some b) ∨ BW (H0.length + 2) (some b) (some b)) ∧
    match x with
    | .normal => Jn H2
    | .ret | .exit _ | .goto _ => Φ x (headS n T (H2 ++ [some .defd, none]) (H0.length :: defs) none)
    | _ => False

theorem wpc_rangeIter2 {f : Operand} {ps : Array Tmp} {as bd : Code} {Φ : Exit → S2 → Prop} {n : Nat} {T : List V} {H0 : Heap} {defs : List Nat} {g : FuncId} {first caps : List V} {items : List (List V)} {K : Heap → Prop}
    (it : IterOf P G g first caps items K) (hn : n ≤ T.length) (hT : T.map V.strip = T) (hf : (headS n T H0 defs none).ev f = .fn (.func g) first caps) (hfn : fnOk P g)
    (J : Nat → Heap → Prop) (h0 : J 0 H0) (hlen : ∀ i H, J i H → H.length = H0.length)
    (hK : ∀ i H, J i H → K (loopH .ready H T ps as bd))
    (hps : ∀ x ∈ items, x.length = ps.size)
    (round : ∀ (i : Nat) (x : List V) (H : Heap), items[i]? = some x → J i H → H.length = H0.length → Scoped (loopH .ready H T ps as bd) →
      evCode2 P G as (fun ex s1 => ex = .normal ∧ s1.H[H.length + 1]? = some (some (.loop .ready none T ps as bd H.length)) ∧
          evCode2 P G bd (bodyΦ2 n T H0 defs H ps as bd (J (i + 1)) Φ) (s1.setH (s1.H.set (H.length + 1) (some (.loop .busy none T ps as bd H.length)))))
        (headS n (setParams ps.toList x T) (loopH .ready H T ps as bd) [] (some (H.length + 1))))
    (hfin : ∀ H, J items.length H → Φ .normal (headS n T (H ++ [some .defd, none]) (H0.length :: defs) none)) :
    WPc P G (.rangeFunc f ps as bd) (toΦ n Φ) (headS n T H0 defs none).st := by
  obtain ⟨fn, hfn1, hfn2, hfn3⟩ := hfn
  have hwf : ∀ H ds c, (headS n T H ds c).Wf := fun H ds c => ⟨hn, fun x hx => by cases hx⟩
  have hTs : (headS n T H0 defs none).st.tmps.map V.strip = T := hT
  have hΦ : ∀ ex H ds, Φ ex (headS n T H ds none) → toΦ n Φ ex { (headS n T H0 defs none).st with tmps := T, H := H, defs := ds } := fun ex H ds h => ⟨headS n T H ds none, rfl, hwf _ _ _, rfl, h⟩
  have hps' : ∀ (ps : List Tmp) (x T : List V), (setParams ps x T).length = T.length := by
    intro ps
    induction ps with
    | nil => intro x T; cases x <;> rfl
    | cons p ps ih =>
      intro x T
      cases x with
      | nil => rfl
      | cons a x => simp [setParams, ih]
  refine wpc_rangeIterW it rfl ((S2.ev_eq (hwf _ _ _) f).trans hf) hfn1 hfn2 hfn3 J h0 hlen (by rw [hTs]; exact hK) hps ?_ ?_
  · rw [hTs]
    intro i x H hx hJ hl hs
    have hwr : (headS n (setParams ps.toList x T) (loopH .ready H T ps as bd) [] (some (H.length + 1))).Wf := ⟨by show n ≤ (setParams ps.toList x T).length; rw [hps']; exact hn, fun x hx => by cases hx⟩
    refine (evCode2_sound as n _ _ hwr rfl (round i x H hx hJ hl hs)).mono ?_
    rintro ex σ1 ⟨s1, rfl, hw1, hn1, rfl, h2, h3⟩
    refine ⟨rfl, h2, ?_⟩
    have hset : ({ s1.st with H := s1.st.H.set (H.length + 1) (some (.loop .busy none T ps as bd H.length)) } : St) = (s1.setH (s1.H.set (H.length + 1) (some (.loop .busy none T ps as bd H.length)))).st := by
      rw [S2.setH_eq]; rfl
    rw [hset]
    refine (evCode2_sound bd n _ _ (by rw [S2.setH_eq]; exact ⟨hw1.n, hw1.d⟩) (by rw [S2.setH_eq]; exact hn1) h3).mono ?_
    rintro ex σ2 ⟨s2, rfl, hw2, hn2, H2, X, h4, h5, h6, h7⟩
    refine ⟨H2, X, by rw [hTs]; exact h4, h5, h6, ?_⟩
    rw [hTs]
    cases ex with
    | normal => exact h7
    | ret => exact hΦ _ _ _ h7
    | exit j => exact hΦ _ _ _ h7
    | goto l => exact hΦ _ _ _ h7
    | panic c => exact h7
    | outgrown => exact h7
  · intro H hJ
    rw [hTs]
    exact hΦ _ _ _ (hfin H hJ)

/-- What leaves the heap as it is, leaves a greater one as it is. -/
theorem Call2.frame' {f : FuncId} {args : List V} {H : Heap} {Ψ : V → Prop} (h : Call2 P G f args H fun r H' => H' = H ∧ Ψ r) (X : Heap) (hs : Scoped H) (ha : ∀ v ∈ args, VW H.length v v ∧ v.strip = v) (hX : ∀ c, heapCls X c = true → heapCls H c = false) :
    Call2 P G f args (H ++ X) fun r H' => H' = H ++ X ∧ Ψ r :=
  (Call2.frame X hs ha hX (h.mono fun r H' ⟨h1, h2⟩ => ⟨by rw [h1], (⟨h1, h2⟩ : H' = H ∧ Ψ r)⟩)).mono fun r H'' ⟨H', h1, _, _, h2, h3⟩ => ⟨by rw [h1, h2], h3⟩

/-- A result that says less. -/
theorem StCall.weakR {f : FuncId} {args : List V} {H : Heap} {Ψ : V → Heap → Prop} (h : StCall P G f args H fun r H' => ∃ r', VW H'.length r r' ∧ Ψ r' H') : StCall P G f args H Ψ := by
  intro w e us hR hargs
  refine CallsIn.mono (h w e us hR hargs) ?_
  rintro en w' ⟨v, r, H', e', rfl, ⟨r', hr, hΨ⟩, hR', hv, hx⟩
  refine ⟨v, r', H', e', rfl, hΨ, hR', ?_, hx⟩
  have := hr.repF (e := e') (by rw [hR'.len]; exact Nat.le_refl _) hv
  have he : e'.cutTo H'.length = e' := by
    rw [← hR'.len]
    rfl
  rwa [he] at this

theorem Call2.weakR {f : FuncId} {args : List V} {H : Heap} {Ψ : V → Heap → Prop} (h : Call2 P G f args H fun r H' => ∃ r', VW H'.length r r' ∧ Ψ r' H') : Call2 P G f args H Ψ := ⟨h.1, h.2.weakR⟩

/-! ### draws -/
def evAppT2 (P : Program) (t t' : TypeId) (d : Nat) (x y : V) (K : V → Prop) : Prop :=
  match slOf P t with
  | some (el, sz, bytes) => match x, y with
    | .dat es rows .tight, .dat es' ys _ =>
      grd (notInt P t' && Nat.ble 1 sz && (match zeroOf P el with | some z => Nat.beq z.length sz | none => false)) (
      (rows = [] ∨ es = sz) ∧ (ys = [] ∨ es' = sz) ∧ (∀ r ∈ ys, r.all V.solid = true) ∧ (rows.length + ys.length) * bytes ≤ maxBytes ∧ rows.length + ys.length ≤ maxBytes ∧ K (.dat sz (rows ++ ys) (.cls d)))
    | _, _ => False
  | none => False

theorem evAppT2_imp {t t' : TypeId} {d : Nat} {x y : V} {K : V → Prop} (h : evAppT2 P t t' d x y K) : evAppT P t t' d x y K := by
  unfold evAppT2 at h
  unfold evAppT
  split at h
  · rename_i el sz bytes hs
    simp only [hs]
    split at h
    · rename_i es rows es' ys fl
      rw [grd_iff, Bool.and_eq_true, Bool.and_eq_true, Nat.ble_eq] at h
      obtain ⟨⟨⟨h1, h2⟩, h3⟩, h4, h5, h6, h7, h8, h9⟩ := h
      have hz : (zeroOf P el).map List.length = some sz := by
        split at h3
        · rename_i z hz
          rw [hz]
          simpa [Nat.beq_eq] using h3
        · cases h3
      exact ⟨h1, h2, hz, h4, h5, h6, h7, h8, h9⟩
    · exact h.elim
  · exact h.elim

def evQ2 (P : Program) (G : Nat → Option (List V)) (o : Oper) (s : S2) (K : V → Prop) : Prop :=
  match o.op with
  | .call { callee := .value f, args, .. } => match s.ev f with
    | .fn (.func g) a b => ∃ u, (∀ X, (∀ k, heapCls X k = false) → Call2 P G g ((a ++ (args.toList.map s.ev) ++ b).map V.strip) (s.H ++ X) (fun r H' => H' = s.H ++ X ∧ r = u)) ∧ K u
    | _ => False
  | .call { callee := .builtin .append, args, argTypes } => match args.toList, argTypes.toList with
    | [x, y], [t, t'] => evAppT2 P t t' (o.dst.getD 0) (s.ev x) (s.ev y) K
    | _, _ => False
  | op => match quiet op with
    | true => evOp2 P G o s fun v _ => K v
    | false => False

/-- A value, its spare places given up; most have none. -/
def demK (all : List Oper) (H : Heap) (v : V) (k : V → Prop) : Prop :=
  match v with
  | .im x => k (.im x)
  | .str l => k (.str l)
  | .ptr i o => k (.ptr i o)
  | .rp cs => k (.rp cs)
  | .dat es rows .no => k (.dat es rows .no)
  | .dat es rows .tight => k (.dat es rows .tight)
  | .tup vs => k (.tup vs)
  | .agg vs => k (.agg vs)
  | .fn f a b => k (.fn f a b)
  | .mp i => k (.mp i)
  | .arr i e l => k (.arr i e l)
  | .yld i => k (.yld i)
  | .bad => k .bad
  | v => k (V.demote (dq all H) v)
theorem demK_eq {all : List Oper} {H : Heap} {v : V} {k : V → Prop} : demK all H v k = k (V.demote (dq all H) v) := by
  unfold demK
  split <;> rfl

noncomputable def evQs2 (P : Program) (G : Nat → Option (List V)) (all : List Oper) (l : List Oper) : S2 → (S2 → Prop) → Prop :=
  List.rec (motive := fun _ => S2 → (S2 → Prop) → Prop) (fun s k => k s) (fun o _ ih s k =>
    match o.guard with
    | none => evQ2 P G o s fun v => demK all s.H v fun v => put2 s o.dst v fun s' => ih s' k
    | some (j, want) => match (all[j]?).bind (·.dst) with
      | none => False
      | some d => match look s.upd s.base d with
        | .im (.bool b) => match want with
          | true => br b (evQ2 P G o (shadow s d true) fun v => demK all s.H v fun v => put2 (shadow s d true) o.dst v fun s' => ih s' k) (put2 (shadow s d false) o.dst (.tup []) fun s' => ih s' k)
          | false => br b (put2 (shadow s d true) o.dst (.tup []) fun s' => ih s' k) (evQ2 P G o (shadow s d false) fun v => demK all s.H v fun v => put2 (shadow s d false) o.dst v fun s' => ih s' k)
        | .tup [] => put2 s o.dst (.tup []) fun s' => ih s' k
        | _ => False) l

theorem evQs2_cons (all : List Oper) (o : Oper) (rest : List Oper) (s : S2) (k : S2 → Prop) : evQs2 P G all (o :: rest) s k =
    match o.guard with
    | none => evQ2 P G o s fun v => demK all s.H v fun v => put2 s o.dst v fun s' => evQs2 P G all rest s' k
    | some (j, want) => match (all[j]?).bind (·.dst) with
      | none => False
      | some d => match look s.upd s.base d with
        | .im (.bool b) => match want with
          | true => br b (evQ2 P G o (shadow s d true) fun v => demK all s.H v fun v => put2 (shadow s d true) o.dst v fun s' => evQs2 P G all rest s' k) (put2 (shadow s d false) o.dst (.tup []) fun s' => evQs2 P G all rest s' k)
          | false => br b (put2 (shadow s d true) o.dst (.tup []) fun s' => evQs2 P G all rest s' k) (evQ2 P G o (shadow s d false) fun v => demK all s.H v fun v => put2 (shadow s d false) o.dst v fun s' => evQs2 P G all rest s' k)
        | .tup [] => put2 s o.dst (.tup []) fun s' => evQs2 P G all rest s' k
        | _ => False := rfl

theorem evQ2_imp {o : Oper} {s : S2} {K : V → Prop} (hw : s.Wf) (h : evQ2 P G o s K) : evQ P G o s.st K := by
  have hev : ∀ x, s.st.ev x = s.ev x := fun x => S2.ev_eq hw x
  have hmap : ∀ l : List Operand, l.map s.st.ev = l.map s.ev := fun l => List.map_congr_left fun x _ => hev x
  unfold evQ2 at h
  unfold evQ
  split at h
  · rename_i f args ts ho
    simp only [ho]
    rw [hev]
    split at h
    · rename_i g a b hf
      obtain ⟨u, h1, h2⟩ := h
      simp only [hf]
      refine ⟨(h1 [] fun _ => rfl).1, u, ?_, h2⟩
      intro X hX
      rw [hmap]
      exact (h1 X hX).2
    · exact h.elim
  · rename_i args ts ho
    simp only [ho]
    split at h
    · rename_i x y t t' ha ht
      simp only [ha, ht, hev]
      exact evAppT2_imp h
    · exact h.elim
  · rename_i hne hne2
    split at h
    · rename_i hq
      have main : quiet o.op = true ∧ evOp P G o s.st fun v τ => τ = s.st ∧ K v :=
        ⟨hq, evOp2_core hw (fun v hv => ⟨rfl, hv⟩) (fun hq' => by rw [hq] at hq'; cases hq') h⟩
      split
      · rename_i f args ts ho
        exact absurd ho (hne f args ts)
      · rename_i args ts ho
        exact absurd ho (hne2 args ts)
      · exact main
    · exact h.elim

theorem evQ_mono {o : Oper} {σ : St} {K K' : V → Prop} (hm : ∀ v, K v → K' v) (h : evQ P G o σ K) : evQ P G o σ K' := by
  unfold evQ at *
  split at h
  · split at h
    · obtain ⟨h1, u, h2, h3⟩ := h
      exact ⟨h1, u, h2, hm _ h3⟩
    · exact h.elim
  · split at h
    · obtain ⟨u, hK, hu⟩ := evAppT_ex h
      exact hu _ (hm _ hK)
    · exact h.elim
  · obtain ⟨hq, h⟩ := h
    obtain ⟨u, h1, h2⟩ := evQ_quiet hq K h
    exact ⟨hq, h2 σ ⟨.inr PreH.rfl', fun _ _ => rfl⟩ K' (hm _ h1)⟩

theorem evQs2_imp {all : List Oper} {k : S2 → Prop} {K : St → Prop} (n : Nat) (hK : ∀ s' : S2, s'.Wf → s'.n = n → k s' → K s'.st) : ∀ (rest : List Oper) (s : S2), s.Wf → s.n = n → evQs2 P G all rest s k → evQs P G all rest s.st K := by
  intro rest
  induction rest with
  | nil => intro s hw hn h; exact hK s hw hn h
  | cons o rest ih =>
    intro s hw hn h
    have run : ∀ (s : S2) (H : Heap), H = s.H → s.Wf → s.n = n → evQ2 P G o s (fun v => demK all H v fun v => put2 s o.dst v fun s' => evQs2 P G all rest s' k) → evQ P G o s.st (fun v => evQs P G all rest (s.st.put o.dst (V.demote (dq all s.st.H) v)) K) := by
      intro s H hH hw hn h
      subst hH
      refine evQ_mono (fun v hv => ?_) (evQ2_imp hw h)
      rw [demK_eq] at hv
      obtain ⟨s'', h1, h2, h3, h4⟩ := put2_imp hw hv
      have := ih s'' h2 (h3.trans hn) h4
      rw [h1] at this
      exact this
    have skip : ∀ s : S2, s.Wf → s.n = n → put2 s o.dst (.tup []) (fun s' => evQs2 P G all rest s' k) → evQs P G all rest (s.st.put o.dst (.tup [])) K := by
      intro s hw hn h
      obtain ⟨s'', h1, h2, h3, h4⟩ := put2_imp hw h
      rw [← h1]
      exact ih s'' h2 (h3.trans hn) h4
    rw [evQs2_cons] at h
    simp only [evQs]
    cases hg : o.guard with
    | none =>
      rw [hg] at h
      exact run s s.H rfl hw hn h
    | some g =>
      obtain ⟨j, want⟩ := g
      rw [hg] at h
      simp only at h ⊢
      split at h
      · exact h.elim
      · rename_i d hd
        split at h
        · rename_i b hl
          rw [yieldedV_look hw hd (by simp) hl]
          simp only
          have hH : ∀ b, s.H = (shadow s d b).H := fun b => by rw [shadow_eq]
          have hnn : ∀ b, (shadow s d b).n = n := fun b => by rw [shadow_eq]; exact hn
          cases want with
          | true =>
            simp only [br_iff] at h
            refine ⟨fun hb => ?_, fun hb => ?_⟩
            · subst hb
              obtain ⟨h1, h2⟩ := shadow_st hw hl
              have := run _ _ (hH true) h2 (hnn _) (h.1 rfl)
              rwa [h1] at this
            · have hb' : b = false := by simpa using hb
              subst hb'
              obtain ⟨h1, h2⟩ := shadow_st hw hl
              have := skip _ h2 (hnn _) (h.2 rfl)
              rwa [h1] at this
          | false =>
            simp only [br_iff] at h
            refine ⟨fun hb => ?_, fun hb => ?_⟩
            · subst hb
              obtain ⟨h1, h2⟩ := shadow_st hw hl
              have := run _ _ (hH false) h2 (hnn _) (h.2 rfl)
              rwa [h1] at this
            · have hb' : b = true := by simpa using hb
              subst hb'
              obtain ⟨h1, h2⟩ := shadow_st hw hl
              have := skip _ h2 (hnn _) (h.1 rfl)
              rwa [h1] at this
        · rename_i hl
          rw [yieldedV_look hw hd (by simp) hl]
          exact skip s hw hn h
        · exact h.elim

/-- A region that draws its order. -/
theorem wpc_draw2 {id : Nat} {ops : Array Oper} {Φ : Exit → S2 → Prop} {s : S2} (q : Nat) (hm : P.follows .mixedOrders = true) (hql : q ≤ ops.toList.length) (hok : drawOk ops.toList q = true) (hw : s.Wf)
    (h : evQs2 P G ops.toList (ops.toList.take q) (s.dem (dq ops.toList s.H)) fun s' => evOps2 P G ops.toList (ops.toList.drop q) s' (Φ .normal)) : WPc P G (.region id ops true) (toΦ s.n Φ) s.st := by
  refine wpc_draw q hm hql hok ?_
  have hd := S2.dem_st (s := s) (dq ops.toList s.H)
  have hn : (s.dem (dq ops.toList s.H)).n = s.n := by unfold S2.dem; split <;> rfl
  have := evQs2_imp (K := fun σ' => evOps P G ops.toList (ops.toList.drop q) σ' (toΦ s.n Φ .normal)) s.n (fun s' hw' hn' h' =>
    evOps2_imp s.n (fun s'' hw'' hn'' h'' => ⟨s'', rfl, hw'', hn'', h''⟩) _ s' hw' hn' h') _ _ (S2.dem_wf hw _) hn h
  rw [hd] at this
  exact this

end Go.Abs

/-! Unroll -/
/- Loops, round by round. -/
namespace Go.Abs
open Go.RowKit

variable {P : Program} {G : Nat → Option (List V)}

theorem stepR_scope {b : Frame} {a : Act} {k : List Item} {cs : List Frame} {w : World} {c : Code} : step P (lone (b.atR a (.code (.scope c) :: k)) cs w) = .next (lone (b.atR a (.code c :: .inScope c :: k)) cs w) :=
  step_lone_go (by simp [stepG, stepG.exec, Frame.atR])
theorem stepR_inScope {b : Frame} {a : Act} {k : List Item} {cs : List Frame} {w : World} {c : Code} : step P (lone (b.atR a (.inScope c :: k)) cs w) = .next (lone (b.atR a k) cs w) :=
  step_lone_go (by simp [stepG, stepG.exec, Frame.atR])

/-- A scope that no jump enters. -/
theorem wpIn_scope {F : Fence} {n : Nat} {c : Code} {Q : Exit → Act → World → Prop} {a : Act} {w : World} (h : c.wpIn F n P (fun e a w => match e with
    | .goto _ => False
    | e => Q e a w) a w) : (Code.scope c).wpIn F n P Q a w := by
  intro b k cs hro hb hr
  obtain ⟨e, a₁, w₁, hq, harr⟩ := h b (.inScope c :: k) cs hro hb hr
  cases e with
  | normal => exact ⟨_, a₁, w₁, hq, .of_steps (.one (fenced_calm hb hr rfl) stepR_scope) (StepsIn.trans harr (.one (fenced_calm hb hr rfl) stepR_inScope))⟩
  | exit id => exact ⟨.exit id, a₁, w₁, hq, .of_steps (.one (fenced_calm hb hr rfl) stepR_scope) ⟨fun k' hk => harr.1 k' (by simp [exitTo, hk]), fun hr' hk => harr.2 hr' (by simp [exitTo, hk])⟩⟩
  | goto l => exact hq.elim
  | ret => exact ⟨_, a₁, w₁, hq, .of_steps (.one (fenced_calm hb hr rfl) stepR_scope) harr⟩
  | panic ch => exact ⟨_, a₁, w₁, hq, .of_steps (.one (fenced_calm hb hr rfl) stepR_scope) harr⟩
  | outgrown => exact ⟨_, a₁, w₁, hq, .of_steps (.one (fenced_calm hb hr rfl) stepR_scope) harr⟩

/-- The same over states. -/
theorem wpc_scope2 {c : Code} {Φ : Exit → S2 → Prop} {s : S2} (hw : s.Wf) (h : evCode2 P G c (fun x s' => match x with
    | .goto _ => False
    | x => Φ x s') s) : WPc P G (.scope c) (toΦ s.n Φ) s.st := by
  intro a w e hst
  refine wpIn_scope (wpIn_mono (evCode2_sound c s.n _ s hw rfl h a w e hst) ?_)
  rintro x a1 w1 ⟨σ1, e1, ⟨s1, rfl, hw1, hn1, hΦ⟩, hrest⟩
  cases x with
  | goto l => exact hΦ.elim
  | _ => exact ⟨s1.st, e1, ⟨s1, rfl, hw1, hn1, hΦ⟩, hrest⟩

/-- The loop's body comes up once more. -/
def LpIn (F : Fence) (n : Nat) (P : Program) (c : Code) (Q : Exit → Act → World → Prop) (a : Act) (w : World) : Prop :=
  ∀ (b : Frame) (k : List Item) (cs : List Frame), b.roundOf = F.round → F.fn b.fn → F.room (cs.length + 1 + n) →
    ∃ e a' w', Q e a' w' ∧ ArrivesIn (Machine.fenced P F) P (lone (b.atR a (.code c :: .inLoop c :: k)) cs w) b k cs e a' w'

theorem lp_loop {F : Fence} {n : Nat} {c : Code} {Q : Exit → Act → World → Prop} {a : Act} {w : World} (h : LpIn F n P c Q a w) : (Code.loop c).wpIn F n P Q a w := by
  intro b k cs hro hb hr
  obtain ⟨e, a', w', hq, harr⟩ := h b k cs hro hb hr
  exact ⟨e, a', w', hq, .of_steps (.one (fenced_calm hb hr rfl) stepR_loop) harr⟩

theorem lp_round {F : Fence} {n : Nat} {c : Code} {Q : Exit → Act → World → Prop} {a : Act} {w : World} (h : c.wpIn F n P (Exit.then (fun a' w' => LpIn F n P c Q a' w') Q) a w) : LpIn F n P c Q a w := by
  intro b k cs hro hb hr
  obtain ⟨e, a₁, w₁, hq, harr⟩ := h b (.inLoop c :: k) cs hro hb hr
  cases e with
  | normal =>
    obtain ⟨e₂, a₂, w₂, hq₂, harr₂⟩ := hq b k cs hro hb hr
    exact ⟨e₂, a₂, w₂, hq₂, .of_steps (StepsIn.trans harr (.one (fenced_calm hb hr rfl) stepR_inLoop)) harr₂⟩
  | exit id => exact ⟨_, a₁, w₁, hq, .pass (x := .inLoop c) rfl (fun _ _ => .inl (by simp)) harr⟩
  | goto l => exact ⟨_, a₁, w₁, hq, .pass (x := .inLoop c) rfl (fun _ _ => .inl (by simp)) harr⟩
  | ret => exact ⟨_, a₁, w₁, hq, .pass (x := .inLoop c) rfl (fun _ _ => .inl (by simp)) harr⟩
  | panic ch => exact ⟨_, a₁, w₁, hq, .pass (x := .inLoop c) rfl (fun _ _ => .inl (by simp)) harr⟩
  | outgrown => exact ⟨_, a₁, w₁, hq, .pass (x := .inLoop c) rfl (fun _ _ => .inl (by simp)) harr⟩

/-- The same over states. -/
def Lp2 (P : Program) (G : Nat → Option (List V)) (c : Code) (n : Nat) (Φ : Exit → S2 → Prop) (s : S2) : Prop :=
  ∀ a w e, RSt G s.st a w e → LpIn (FW (s.st.cur.map e.ρ)) 0 P c (fun x a' w' => ∃ σ' e', toΦ n Φ x σ' ∧ σ'.cur = s.st.cur ∧ RSt G σ' a' w' e' ∧ Ext s.st.H w e σ'.H w' e') a w

theorem wpc_unroll {c : Code} {Φ : Exit → S2 → Prop} {s : S2} {n : Nat} (h : Lp2 P G c n Φ s) : WPc P G (.loop c) (toΦ n Φ) s.st := fun a w e hst => lp_loop (h a w e hst)

/-- One round. -/
theorem lp2_round {c : Code} {Φ : Exit → S2 → Prop} {s : S2} {n : Nat} (hw : s.Wf) (hn : s.n = n) (h : evCode2 P G c (fun x s' => match x with
      | .normal => s'.Wf → ∃ s2, Weak G s'.st s2.st ∧ s'.st.H.length ≤ s2.st.H.length ∧ Lp2 P G c n Φ s2
      | x => Φ x s') s) : Lp2 P G c n Φ s := by
  intro a w e hst
  refine lp_round (wpIn_mono (evCode2_sound c n _ s hw hn h a w e hst) ?_)
  rintro x a1 w1 ⟨σ1, e1, ⟨s1, rfl, hw1, hn1, hΦ⟩, hc1, hst1, hx1⟩
  cases x with
  | normal =>
    obtain ⟨s2, hwk, hlen, hlp⟩ := hΦ hw1
    obtain ⟨e2, hst2, hx2⟩ := hwk.2 a1 w1 e1 hst1
    have hx3 := hx2 _ _ _ (Nat.le_trans hx1.len hlen) hx1
    have := hlp a1 w1 e2 hst2
    intro b k cs hro hb hr
    have hcur : s2.st.cur.map e2.ρ = s.st.cur.map e.ρ := cur_same hst (hwk.1.trans hc1) hx3
    rw [hcur] at this
    obtain ⟨ex, a', w', ⟨σ', e', h1, h2, h3, h4⟩, harr⟩ := this b k cs hro hb hr
    exact ⟨ex, a', w', ⟨σ', e', h1, h2.trans (hwk.1.trans hc1), h3, hx3.trans h4⟩, harr⟩
  | _ => exact ⟨s1.st, e1, ⟨s1, rfl, hw1, hn1, hΦ⟩, hc1, hst1, hx1⟩

end Go.Abs

/-! Freeze -/
/- A block of one's own is given up: what it holds is read only from then on. -/
namespace Go.Abs
open Go.RowKit

variable {P : Program} {G : Nat → Option (List V)}

/-- A value in which a slice of the block stands as rows. -/
inductive Fz (id : Nat) (vs : List V) : V → V → Prop
  | same (v : V) : Fz id vs v v
  | arr (es len : Nat) (h : len * es ≤ vs.length) (hs : 1 ≤ es) : Fz id vs (.arr id es len) (.dat es (chunks es len vs) .no)
  | agg (cs cs' : List V) (hl : cs.length = cs'.length) (h : ∀ (i : Nat) (v v' : V), cs[i]? = some v → cs'[i]? = some v' → Fz id vs v v') : Fz id vs (.agg cs) (.agg cs')
  | tup (cs cs' : List V) (hl : cs.length = cs'.length) (h : ∀ (i : Nat) (v v' : V), cs[i]? = some v → cs'[i]? = some v' → Fz id vs v v') : Fz id vs (.tup cs) (.tup cs')

/-- The environment in which a block's beginning is read only. -/
def Env.froze (e : Env) (r n : Nat) : Env := { e with RO := fun b o => e.RO b o ∨ (b = r ∧ o < n) }

theorem Mono.froze (w : World) (e : Env) (r n : Nat) : Mono w e w (e.froze r n) := ⟨Nat.le_refl _, fun _ _ => rfl, fun _ _ h => ⟨.inl h, rfl⟩, fun _ _ _ h => h⟩

theorem Fz.rep {w : World} {e : Env} {id : Nat} {t : TypeId} {vs : List V} (hb : RepBlk w e (e.ρ id) (.cells t vs)) (hd : ∀ v ∈ vs, v.dataCell = true) {v v' : V} (h : Fz id vs v v') :
    ∀ {u : Value}, Rep w e v u → Rep w (e.froze (e.ρ id) vs.length) v' u := by
  induction h with
  | same v => exact fun hr => hr.mono (Mono.froze w e _ _)
  | arr es len hl hs =>
    intro u hr
    cases hr with
    | arr _ _ _ cap hid hcap =>
      cases hb with
      | cells _ _ cs hw hlen hrep =>
        have hcel : ∀ (j : Nat) (v : V), vs[j]? = some v → ∃ x, cs[j]? = some x ∧ cel w (e.ρ id) (0 + j) = some x ∧ Rep w e.pure v x := by
          intro j v hv
          have hj := (List.getElem?_eq_some_iff.1 hv).1
          have hjs : j < cs.size := by omega
          refine ⟨cs[j], by simp [hjs], ?_, ?_⟩
          · unfold cel World.cell?
            simp only [hw, Nat.zero_add]
            simp [hjs]
          · exact (hrep j v cs[j] hv (by simp [hjs])).1.toPure (hd v (List.mem_of_getElem? hv))
        have := Rep.dat (w := w) (e := e.froze (e.ρ id) vs.length) es (chunks es len vs) .no (e.ρ id) 0 cap (fun i j => (cs[i * es + j]?).getD undef)
          (chunks_row' len vs hl) (by rw [chunks_len']; exact hcap) (by simp)
          (fun i j v hv => by
            obtain ⟨_, _, h3⟩ := chunks_get' len vs i j v hv
            obtain ⟨x, hx, hc, _⟩ := hcel _ v h3
            rw [hx]
            exact ⟨hc, .inr ⟨rfl, by have := (List.getElem?_eq_some_iff.1 h3).1; omega⟩⟩)
          (fun i j v hv => by
            obtain ⟨_, _, h3⟩ := chunks_get' len vs i j v hv
            obtain ⟨x, hx, _, hr⟩ := hcel _ v h3
            rw [hx]
            exact hr.mono (Mono.froze w e _ _).pure)
        rwa [chunks_len'] at this
  | agg cs cs' hl h ih =>
    intro u hr
    cases hr with
    | agg _ us hl2 h2 =>
      exact .agg cs' us (by omega) fun i v' x hv' hx => by
        have hi : i < cs.length := by rw [hl]; exact (List.getElem?_eq_some_iff.1 hv').1
        exact ih i cs[i] v' (by simp [hi]) hv' (h2 i cs[i] x (by simp [hi]) hx)
  | tup cs cs' hl h ih =>
    intro u hr
    cases hr with
    | tup _ us hl2 h2 =>
      exact .tup cs' us (by omega) fun i v' x hv' hx => by
        have hi : i < cs.length := by rw [hl]; exact (List.getElem?_eq_some_iff.1 hv').1
        exact ih i cs[i] v' (by simp [hi]) hv' (h2 i cs[i] x (by simp [hi]) hx)

theorem StCall.freeze {f : FuncId} {args : List V} {H : Heap} {Ψ : V → Heap → Prop}
    (h : StCall P G f args H fun r H' => ∃ id t vs r', H.length ≤ id ∧ H'[id]? = some (some (.cells t vs)) ∧ (∀ v ∈ vs, v.dataCell = true) ∧ Fz id vs r r' ∧ Ψ r' (H'.set id none)) : StCall P G f args H Ψ := by
  intro w e us hR hargs
  refine CallsIn.mono (h w e us hR hargs) ?_
  rintro en w' ⟨v, r, H', e', rfl, ⟨id, t, vs, r', hid, hH, hd, hfz, hΨ⟩, hR', hv, hx⟩
  have hlive : live H' id := ⟨_, hH⟩
  have hb := hR'.blk id _ hH
  obtain ⟨hF, hl⟩ := hR'.forget id
  have hxF := hx.forget id hl
  have hne : ∀ j, live (H'.set id none) j → j ≠ id := by
    rintro j ⟨b, hb⟩ rfl
    rw [List.getElem?_set] at hb
    split at hb
    · split at hb <;> cases hb
    · rename_i h; exact h rfl
  refine ⟨v, r', H'.set id none, e'.froze (e'.ρ id) vs.length, rfl, hΨ, ?_, ⟨hfz.rep hb hd hv.1, ?_⟩, ?_⟩
  · refine ⟨hF.len, fun j b hj => (hF.blk j b hj).mono (Mono.froze _ _ _ _) rfl, hF.inj, ?_, ?_, ?_, hF.spd, fun g cs hg => (hF.glob g cs hg).mono (Mono.froze _ _ _ _)⟩
    · rintro b o (h | ⟨rfl, ho⟩)
      · exact hF.ro b o h
      · cases hb with
        | cells _ _ cs hw hlen hrep =>
          unfold cel World.cell?
          simp only [hw]
          have : o < cs.size := by omega
          simp [this]
    · rintro j o hj (h | ⟨h, ho⟩)
      · exact hF.roOwn j o hj h
      · exact hne j hj (hR'.inj j id (hl j hj) hlive h)
    · intro c b o hs
      obtain ⟨h1, h2, h3, h4⟩ := hF.sp c b o hs
      refine ⟨h1, h2, ?_, h4⟩
      rintro (h | ⟨rfl, ho⟩)
      · exact h3 h
      · exact (hR'.sp c _ o hs).2.2.2 id hlive rfl
  · have hsame : FlagOk e' r v → FlagOk (e'.froze (e'.ρ id) vs.length) r v := fun h => h.mono fun es rows c _ b o hs => hs
    cases hfz with
    | same => exact hsame hv.2
    | arr => cases v <;> trivial
    | agg => cases v <;> trivial
    | tup => cases v <;> trivial
  · refine ⟨hxF.os, hxF.tape, hxF.output, hxF.size, hxF.len, hxF.ρ, hxF.new, hxF.old, fun b o h => .inl (hxF.ro b o h), ?_, hxF.spNew, hxF.cell, hxF.block⟩
    rintro b o (h | ⟨rfl, ho⟩)
    · exact hxF.roNew b o h
    · exact .inr (.inl (hx.new id hid hlive))

theorem Call2.freeze {f : FuncId} {args : List V} {H : Heap} {Ψ : V → Heap → Prop}
    (h : Call2 P G f args H fun r H' => ∃ id t vs r', H.length ≤ id ∧ H'[id]? = some (some (.cells t vs)) ∧ (∀ v ∈ vs, v.dataCell = true) ∧ Fz id vs r r' ∧ Ψ r' (H'.set id none)) : Call2 P G f args H Ψ :=
  ⟨h.1, h.2.freeze⟩

theorem StCall.weakA {f : FuncId} {args args' : List V} {H : Heap} {Ψ : V → Heap → Prop} (hv : VWs H.length args args') (h : StCall P G f args' H Ψ) : StCall P G f args H Ψ := by
  intro w e us hR hargs
  refine h w e us hR ?_
  obtain ⟨hl, hg⟩ := hv.get
  refine ⟨hl ▸ hargs.1, fun i v' u hv' hu => ?_⟩
  have hi : i < args.length := by rw [hl]; exact (List.getElem?_eq_some_iff.1 hv').1
  have hi' : args[i]? = some args[i] := by simp [hi]
  have := (hg i _ _ hi' hv').repF (e := e) (by rw [hR.len]; exact Nat.le_refl _) (hargs.2 i _ u hi' hu)
  have he : e.cutTo H.length = e := by
    rw [← hR.len]
    rfl
  rwa [he] at this

theorem Call2.weakA {f : FuncId} {args args' : List V} {H : Heap} {Ψ : V → Heap → Prop} (hv : VWs H.length args args') (h : Call2 P G f args' H Ψ) : Call2 P G f args H Ψ := ⟨h.1, h.2.weakA hv⟩

end Go.Abs

/-! CutW -/
/- What a call leaves behind says less than what it has laid. -/
namespace Go.Abs
open Go.RowKit

variable {P : Program} {G : Nat → Option (List V)}

/-- The first blocks of H', some saying less; those of H are as they were, or all that they name is there. -/
def CutW (n : Nat) (H H' H1 : Heap) : Prop := H1.length = n ∧ ∀ (id : Nat) (b : Option Blk), H1[id]? = some b → ∃ x, H'[id]? = some x ∧ ((x = b ∧ H[id]? = some b) ∨ BW n x b)

theorem cutW_post {H H' H1 : Heap} {w w' : World} {e e' : Env} {r r' : V} {v : Value} (hR : RHeap G H w e) (hc : CutW H.length H H' H1) (hr : VW H.length r r') (hR' : RHeap G H' w' e') (hv : RepF w' e' r v) (hx : Ext H w e H' w' e') :
    RHeap G H1 w' (e'.cutTo H.length) ∧ RepF w' (e'.cutTo H.length) r' v ∧ Ext H w e H1 w' (e'.cutTo H.length) := by
  obtain ⟨hl, hsc⟩ := hc
  have hb : BWs H1.length H' H1 := BWs.of fun i y hy => by
    obtain ⟨x, hx, h⟩ := hsc i y hy
    refine ⟨x, hx, ?_⟩
    rw [hl]
    rcases h with ⟨rfl, h⟩ | h
    · cases x with
      | none => exact .drop _
      | some b => exact hR.inScope i b h
    · exact h
  obtain ⟨h1, h2⟩ := hR'.cutTo hb
  have hlen := hb.get.1
  have hn : H1.length ≤ e'.N := by rw [hR'.len]; exact hlen
  rw [hl] at h1 hn
  exact ⟨h1, hr.repF hn hv, ⟨hx.os, hx.tape, hx.output, hx.size, by omega, hx.ρ, fun id h3 h4 => hx.new id h3 (h2 id h4), fun id h3 h4 => hx.old id h3 (h2 id h4), hx.ro, hx.roNew, hx.spNew, hx.cell, hx.block⟩⟩

theorem StCall.cutW {f : FuncId} {args : List V} {H : Heap} {Ψ : V → Heap → Prop} (h : StCall P G f args H fun r H' => ∃ r' H1, CutW H.length H H' H1 ∧ VW H.length r r' ∧ Ψ r' H1) : StCall P G f args H Ψ := by
  intro w e us hR hargs
  refine CallsIn.mono (h w e us hR hargs) ?_
  rintro en w' ⟨v, r, H', e', rfl, ⟨r', H1, hc, hr, hΨ⟩, hR', hv, hx⟩
  obtain ⟨h1, h2, h3⟩ := cutW_post hR hc hr hR' hv hx
  exact ⟨v, r', H1, _, rfl, hΨ, h1, h2, h3⟩
theorem Call2.cutW {f : FuncId} {args : List V} {H : Heap} {Ψ : V → Heap → Prop} (h : Call2 P G f args H fun r H' => ∃ r' H1, CutW H.length H H' H1 ∧ VW H.length r r' ∧ Ψ r' H1) : Call2 P G f args H Ψ := ⟨h.1, h.2.cutW⟩

/-- One block is another one. -/
theorem CutW.at {H H' : Heap} {k : Nat} {x b : Option Blk} (hk : k < H.length) (hx : H'[k]? = some x) (ho : ∀ id, id ≠ k → id < H.length → H'[id]? = H[id]?) (hb : BW H.length x b) : CutW H.length H H' (H.set k b) := by
  refine ⟨by simp, fun id b' h => ?_⟩
  rw [List.getElem?_set] at h
  by_cases hi : k = id
  · subst hi
    simp [hk] at h
    subst h
    exact ⟨x, hx, .inr hb⟩
  · simp [hi] at h
    refine ⟨b', ?_, .inl ⟨rfl, h⟩⟩
    rw [ho id (fun h => hi h.symm) (List.getElem?_eq_some_iff.1 h).1]
    exact h
/-- No block is another one. -/
theorem CutW.same {H X : Heap} : CutW H.length H (H ++ X) H := ⟨rfl, fun id b h => ⟨b, by rw [List.getElem?_append_left (List.getElem?_eq_some_iff.1 h).1]; exact h, .inl ⟨rfl, h⟩⟩⟩
end Go.Abs

/-! DrawC -/
/- Regions that draw their order and in which one call lays new blocks. -/
namespace Go.Abs
open Go.RowKit

variable {P : Program} {G : Nat → Option (List V)}

theorem heapCls_app {H X : Heap} (hX : ∀ k, heapCls X k = false) : heapCls (H ++ X) = heapCls H := by
  funext k
  have := hX k
  unfold heapCls at *
  rw [List.any_append, this, Bool.or_false]

theorem dq_app {all : List Oper} {H X : Heap} (hX : ∀ k, heapCls X k = false) : dq all (H ++ X) = dq all H := by
  unfold dq
  rw [heapCls_app hX]

theorem stL_congr {ops : List Oper} {q : Nat} {vals vals' : Nat → V} {σ : St} {L : Nat → Bool} (h : ∀ l, L l = true → vals l = vals' l) : stL ops q vals σ L = stL ops q vals' σ L := by
  refine st_ext rfl rfl rfl fun t => ?_
  rw [stL_get, stL_get]
  congr 1
  funext v
  cases own ops q t with
  | none => rfl
  | some j =>
    simp only
    cases hL : L j with
    | false => rfl
    | true => simp [h j hL]

end Go.Abs

/-! DrawA -/
/- Regions that draw their order and in which one operation lays a new block, whenever it comes up. -/
namespace Go.Abs
open Go.RowKit
set_option linter.unusedVariables false
set_option linter.unusedSimpArgs false

variable {P : Program} {G : Nat → Option (List V)}

theorem noCls_any {cs : List V} (h : (cs.all fun v => !v.isCls) = true) (k : Nat) : cs.any (V.hasCls k) = false := by
  rw [List.any_eq_false]
  intro v hv
  have := List.all_eq_true.1 h v hv
  cases v with
  | dat es rows fl => cases fl with
    | cls c => simp [V.isCls] at this
    | _ => simp [V.hasCls]
  | _ => simp [V.hasCls]

end Go.Abs

/-! DrawE -/
/- Regions that draw their order, with an append that takes up spare places, and a new block whenever it comes up. -/
namespace Go.Abs
open Go.RowKit
set_option linter.unusedVariables false
set_option linter.unusedSimpArgs false

variable {P : Program} {G : Nat → Option (List V)}

end Go.Abs

/-! DrawF -/
/- Regions that draw their order with an append that takes up spare places: the rule for walks. -/
namespace Go.Abs
open Go.RowKit
set_option linter.unusedVariables false
set_option linter.unusedSimpArgs false

variable {P : Program} {G : Nat → Option (List V)}

/-! ### for reduction -/
end Go.Abs
