/- Operations, regions and code, laid out so that reduction alone works them out. -/
import Derived.Test.YteklnflddoekfaaDoorAbsEv2
namespace Go.Abs
open Go.RowKit

variable {P : Program} {G : Nat → Option (List V)}

/-- A function that may be called. -/
def fnOk (P : Program) (g : FuncId) : Prop := ∃ fn, P.funcs[g]? = some fn ∧ fn.body.isSome ∧ (fn.name == "runtime.NumGoroutine") = false

/-- A call's condition: the function may be called, and its contract. -/
def Call2 (P : Program) (G : Nat → Option (List V)) (g : FuncId) (args : List V) (H : Heap) (Ψ : V → Heap → Prop) : Prop := fnOk P g ∧ StCall P G g args H Ψ

theorem Call2.mono {g : FuncId} {args : List V} {H : Heap} {Ψ Ψ' : V → Heap → Prop} (h : Call2 P G g args H Ψ) (hm : ∀ r H', Ψ r H' → Ψ' r H') : Call2 P G g args H Ψ' := ⟨h.1, h.2.mono hm⟩

def bsel (t a b : Bool) : Bool := match t with | true => a | false => b

def evAppend2 (P : Program) (t t' : TypeId) (d : Nat) (x y : V) (s : S2) (k : V → S2 → Prop) : Prop :=
  match slOf P t with
  | some (el, sz, bytes) => match x, y with
    | .dat es rows fl, .dat es' ys _ =>
      grd (notInt P t' && Nat.ble 1 sz && (match zeroOf P el with | some z => Nat.beq z.length sz | none => false)) (
      (rows = [] ∨ es = sz) ∧ (ys = [] ∨ es' = sz) ∧ (∀ r ∈ ys, r.all V.solid = true) ∧ (rows.length + ys.length) * bytes ≤ maxBytes ∧ rows.length + ys.length ≤ maxBytes ∧
      match fl with
      | .no => False
      | .tight => k (.dat sz (rows ++ ys) (.cls d)) s
      | .cls c => k (.dat sz (rows ++ ys) (.cls c)) ((s.dem (· == c)).setH (demoteH (· == c) s.H)))
    | _, _ => False
  | none => False

/-! ### maps -/
def evFind2 (k : V) (K : Option (Nat × V) → Prop) : List (V × V) → Nat → Prop
  | [], _ => K none
  | e :: es, i => match keyEq k e.1 with
    | some b => br b (K (some (i, e.2))) (evFind2 k K es (i + 1))
    | none => False

theorem evFind2_imp {k : V} {K K' : Option (Nat × V) → Prop} (hm : ∀ r, K r → K' r) : ∀ (es : List (V × V)) (i : Nat), evFind2 k K es i → evFind k K' es i := by
  intro es
  induction es with
  | nil => intro i h; exact hm _ h
  | cons e es ih =>
    intro i h
    unfold evFind2 at h
    unfold evFind
    split at h
    · rename_i b hb
      rw [hb]
      rw [br_iff] at h
      exact ⟨fun hb => hm _ (h.1 hb), fun hb => ih _ (h.2 hb)⟩
    · exact h.elim

def evInsert2 (P : Program) (t : TypeId) (key x : V) (H : Heap) (K : Heap → Prop) : V → Prop
  | .mp id => match H[id]?, mapOf P t with
    | some (some (.map es c)), some (kt, _) => grd (keyTy P kt key) (evFind2 key (fun r => match r with
      | none => K (H.set id (some (.map (es ++ [(key, x)]) (c + 1))))
      | some (i, _) => K (H.set id (some (.map (es.set i (key, x)) c)))) es 0)
    | _, _ => False
  | _ => False

theorem evInsert2_imp {t : TypeId} {key x m : V} {σ : St} {K : Heap → Prop} {K' : St → Prop} (hm : ∀ H, K H → K' { σ with H := H }) (h : evInsert2 P t key x σ.H K m) : evInsert P t key x σ K' m := by
  cases m with
  | mp id =>
    simp only [evInsert2] at h
    simp only [evInsert]
    split at h
    · rename_i h1 h2
      simp only [h1, h2]
      rw [grd_iff] at h
      refine ⟨h.1, evFind2_imp (fun r hr => ?_) _ _ h.2⟩
      cases r with
      | none => exact hm _ hr
      | some r => exact hm _ hr
    · exact h.elim
  | _ => exact h.elim

def evLookup2 (P : Program) (t : TypeId) (key : V) (ok : Bool) (H : Heap) (K : V → Prop) : V → Prop
  | .mp id => match H[id]?, mapOf P t with
    | some (some (.map es _)), some (kt, et) => match zero1 P et with
      | some z => grd (keyTy P kt key) (evFind2 key (fun r => match ok with
        | true => match r with
          | none => K (.tup [z, .bool false])
          | some (_, v) => K (.tup [v, .bool true])
        | false => match r with
          | none => K z.strip
          | some (_, v) => K v.strip) es 0)
      | none => False
    | _, _ => False
  | _ => False

theorem evLookup2_imp {t : TypeId} {key m : V} {ok : Bool} {σ : St} {K K' : V → Prop} (hm : ∀ v, K v → K' v) (h : evLookup2 P t key ok σ.H K m) : evLookup P t key ok σ K' m := by
  cases m with
  | mp id =>
    simp only [evLookup2] at h
    simp only [evLookup]
    split at h
    · rename_i h1 h2
      simp only [h1, h2]
      split at h
      · rename_i h3
        simp only [h3]
        rw [grd_iff] at h
        refine ⟨h.1, evFind2_imp (fun r hr => ?_) _ _ h.2⟩
        cases ok <;> cases r <;> exact hm _ hr
      · exact h.elim
    · exact h.elim
  | _ => exact h.elim

def evRange2 (P : Program) (t : TypeId) (H : Heap) (K : Heap → Prop) : V → Prop
  | .mp id => match H[id]?, mapOf P t with
    | some (some (.map _ c)), some _ => K (H ++ [some (.iter id c c [])])
    | _, _ => False
  | _ => False

theorem evRange2_imp {t : TypeId} {m : V} {σ : St} {K : Heap → Prop} {k' : V → St → Prop} (hm : ∀ H, K H → k' (.ptr σ.H.length 0) { σ with H := H }) (h : evRange2 P t σ.H K m) : evRange P t σ k' m := by
  cases m with
  | mp id =>
    simp only [evRange2] at h
    simp only [evRange]
    split at h
    · rename_i h1 h2
      simp only [h1, h2]
      exact hm _ h
    · exact h.elim
  | _ => exact h.elim

/-- Of a map's entries one that hasn't been handed out comes, whichever; none comes if there are none. -/
def nextK (es : List (V × V)) (seen : List Nat) (k0 : Prop) (k1 : Nat → V → V → Prop) : Prop :=
  ((∀ (i : Nat), i < es.length → i ∈ seen) → k0) ∧ (∀ (i : Nat) (x : V × V), es[i]? = some x → ¬ i ∈ seen → k1 i x.1 x.2)

def evNext2 (H : Heap) (k0 : Prop) (k1 : V → V → Heap → Prop) : V → Prop
  | .ptr id 0 => match H[id]? with
    | some (some (.iter m since stepped seen)) => match H[m]? with
      | some (some (.map es c)) => grd (Nat.ble c since && Nat.ble since stepped) (nextK es seen k0 fun i x y => k1 x y (H.set id (some (.iter m since c (seen ++ [i])))))
      | _ => False
    | _ => False
  | _ => False

theorem evNext2_imp {m : V} {σ : St} {k0 : Prop} {k1 : V → V → Heap → Prop} {k' : V → St → Prop} (h0 : k0 → k' (.tup [.bool false]) σ) (h1 : ∀ x y H, k1 x y H → k' (.tup [.bool true, x, y]) { σ with H := H }) (h : evNext2 σ.H k0 k1 m) : evNext σ k' m := by
  unfold evNext2 at h
  unfold evNext
  split at h
  · split at h
    · rename_i g1
      simp only [g1]
      split at h
      · rename_i g2
        simp only [g2]
        rw [grd_iff] at h
        exact ⟨h.1, fun hi => h0 (h.2.1 hi), fun i x hx hi => h1 _ _ _ (h.2.2 i x hx hi)⟩
      · exact h.elim
    · exact h.elim
  · exact h.elim

def evEntry2 (H : Heap) (k : V → Prop) : V → Prop
  | .ptr id 0 => match H[id]? with
    | some (some (.iter m _ stepped seen)) => match H[m]?, seen.getLast? with
      | some (some (.map es c)), some i => grd (Nat.beq c stepped) (optK es[i]? fun x => k (.tup [x.1, x.2]))
      | _, _ => False
    | _ => False
  | _ => False

theorem evEntry2_imp {m : V} {σ : St} {k k' : V → Prop} (hm : ∀ v, k v → k' v) (h : evEntry2 σ.H k m) : evEntry σ k' m := by
  unfold evEntry2 at h
  unfold evEntry
  split at h
  · split at h
    · rename_i g1
      simp only [g1]
      split at h
      · rename_i g2 g3
        simp only [g2, g3]
        rw [grd_iff] at h
        obtain ⟨x, hx, hk⟩ := optK_elim h.2
        refine ⟨h.1, ?_⟩
        rw [hx]
        exact hm _ hk
      · exact h.elim
    · exact h.elim
  · exact h.elim

def evOp2' (P : Program) (G : Nat → Option (List V)) (o : Oper) (s : S2) (H : Heap) (k : V → S2 → Prop) : Prop :=
  match o.op with
  | .move x | .assign x => force (s.ev x) fun v => k v s
  | .alloc t => match zeroOf P t with
    | some cs => k (.ptr H.length 0) (s.setH (H ++ [some (.cells t cs)]))
    | none => False
  | .box t x => force (s.ev x) fun v => match v.cellsF with
    | some cs => k (.ptr H.length 0) (s.setH (H ++ [some (.cells t cs)]))
    | none => False
  | .build t parts => evBuild2 P t (parts.toList.map fun (i, x) => (i, s.ev x)) fun v => k v s
  | .buildSlice t len parts => evBuildSlice2 P t len (parts.toList.map fun (i, x) => (i, s.ev x)) fun v => k v s
  | .load t a => evLoad2 P t H (fun v => force v fun v => k v s) (asRp G (s.ev a))
  | .store t a x => force (s.ev x) fun v => evStore2 P t H v (fun H => k (.tup []) (s.setH H)) (s.ev a)
  | .nilCheck x => match s.ev x with
    | .ptr id off => k (.ptr id off) s
    | .rp cs => k (.rp cs) s
    | .fn (.func f) a b => k (.fn (.func f) a b) s
    | .yld id => k (.yld id) s
    | _ => False
  | .binOp op t x y _ => evBin2 P op t (s.ev x) (s.ev y) fun v => k v s
  | .unOp op _ x => evUn op (s.ev x) fun v => k v s
  | .convert src dst x => evConvert P src dst (s.ev x) fun v => k v s
  | .makeFunc fn a b => k (.fn fn (a.toList.map s.ev) (b.toList.map s.ev)) s
  | .fieldAddr t x f => evFieldAddr2 P t f (fun v => k v s) (asRp G (s.ev x))
  | .field t x f => evField2 P t f (fun v => force v fun v => k v s) (s.ev x)
  | .index t x i => evIndex2 P t (s.ev x) (s.ev i) fun v => force v fun v => k v s
  | .indexAddr t x i => evIndexAddr2 P t (asRp G (s.ev x)) (s.ev i) fun v => k v s
  | .pick c x y => match s.ev c with
    | .im (.bool t) => match s.ev x, s.ev y with
      | .im (.bool a), .im (.bool b) => k (.bool (bsel t a b)) s
      | x, y => br t (force x fun v => k v s) (force y fun v => k v s)
    | _ => False
  | .extract x i => match s.ev x with
    | .tup vs => match vs[i]? with
      | some v => force v.strip fun v => k v s
      | none => False
    | _ => False
  | .makeMap _ none => k (.mp H.length) (s.setH (H ++ [some (.map [] 0)]))
  | .mapUpdate t m x y | .insert t m x y => force (s.ev x) fun key => force (s.ev y) fun v => evInsert2 P t key v H (fun H => k (.tup []) (s.setH H)) (s.ev m)
  | .lookup t x i ok => force (s.ev i) fun key => evLookup2 P t key ok H (fun v => force v fun v => k v s) (s.ev x)
  | .range t x => evRange2 P t H (fun H' => k (.ptr H.length 0) (s.setH H')) (s.ev x)
  | .next x false => evNext2 H (k (.tup [.bool false]) s) (fun x y H => k (.tup [.bool true, x, y]) (s.setH H)) (s.ev x)
  | .entry x => evEntry2 H (fun v => k v s) (s.ev x)
  | .call c => match c.callee with
    | .builtin .len => match c.args.toList, c.argTypes.toList with
      | [x], [t] => evLen2 P t (s.ev x) fun v => k v s
      | _, _ => False
    | .builtin .append => match c.args.toList, c.argTypes.toList with
      | [x, y], [t, t'] => evAppend2 P t t' (o.dst.getD 0) (s.ev x) (s.ev y) s k
      | _, _ => False
    | .builtin .min => match c.args.toList with
      | [x, y] => match s.ev x, s.ev y with
        | .im (.int kd a), .im (.int kd' b) => grd (kindEq kd kd') (k (.int kd (if b < a then b else a)) s)
        | _, _ => False
      | _ => False
    | .builtin .max => match c.args.toList with
      | [x, y] => match s.ev x, s.ev y with
        | .im (.int kd a), .im (.int kd' b) => grd (kindEq kd kd') (k (.int kd (if b > a then b else a)) s)
        | _, _ => False
      | _ => False
    | .value f => match s.ev f with
      | .fn (.func g) a b => Call2 P G g ((a ++ (c.args.toList.map s.ev) ++ b).map V.strip) H fun r H' => force r fun r => k r ((s.dem (heapCls H)).setH H')
      | .yld id => StYield P G id ((c.args.toList.map s.ev).map V.strip) H fun r H' => force r fun r => k r ((s.dem (heapCls H)).setH H')
      | _ => False
    | _ => False
  | _ => False

def evOp2 (P : Program) (G : Nat → Option (List V)) (o : Oper) (s : S2) (k : V → S2 → Prop) : Prop :=
  match s with
  | ⟨n, b, u, H, ds, c⟩ => evOp2' P G o ⟨n, b, u, H, ds, c⟩ H k

theorem evOp2_eq {o : Oper} {s : S2} {k : V → S2 → Prop} : evOp2 P G o s k = evOp2' P G o s s.H k := by cases s; rfl

theorem evLoadCells_mono {t : TypeId} {vs : List V} {k k' : V → Prop} (hm : ∀ v, k v → k' v) (h : evLoadCells P t vs k) : evLoadCells P t vs k' := by
  unfold evLoadCells at *
  split at h
  · exact ⟨h.1, hm _ h.2⟩
  · split at h
    · exact hm _ h
    · exact h.elim
  · exact h.elim

theorem evLoad_mono {t : TypeId} {σ : St} {k k' : V → Prop} {x : V} (hm : ∀ v, k v → k' v) (h : evLoad P t σ k x) : evLoad P t σ k' x := by
  obtain ⟨u, h1, h2⟩ := det_load t σ x k h
  exact h2 k' (hm u h1)

theorem Det.mono {R : (V → Prop) → Prop} (hd : Det R) {k k' : V → Prop} (hm : ∀ v, k v → k' v) (h : R k) : R k' := by
  obtain ⟨u, h1, h2⟩ := hd k h
  exact h2 k' (hm u h1)

theorem evStore2_mono {t : TypeId} {H : Heap} {v : V} {k k' : Heap → Prop} {x : V} (hm : ∀ H', k H' → k' H') (h : evStore2 P t H v k x) : evStore2 P t H v k' x := by
  cases x with
  | ptr id off =>
    simp only [evStore2] at h ⊢
    split at h
    · rename_i h1
      try simp only [h1]
      split at h
      · rename_i h2 h3
        try simp only [h2, h3]
        rw [grd_iff] at h ⊢
        exact ⟨h.1, hm _ h.2⟩
      · exact h.elim
    · exact h.elim
  | _ => exact h.elim

theorem evOp2_core {o : Oper} {s : S2} {k : V → S2 → Prop} {K : V → St → Prop} (hw : s.Wf) (ok : ∀ v, k v s → K v s.st) (hK : quiet o.op = false → ∀ v s', s'.Wf → s'.n = s.n → k v s' → K v s'.st) (h : evOp2 P G o s k) : evOp P G o s.st K := by
  have hev : ∀ x, s.st.ev x = s.ev x := fun x => S2.ev_eq hw x
  have okH : quiet o.op = false → ∀ v H, k v { s with H := H } → K v { s.st with H := H } := fun hq v H hv => hK hq v { s with H := H } ⟨hw.n, hw.d⟩ rfl hv
  have hmap : ∀ l : List Operand, l.map s.st.ev = l.map s.ev := fun l => List.map_congr_left fun x _ => hev x
  have hmap2 : ∀ l : List (Nat × Operand), (l.map fun (i, x) => (i, s.st.ev x)) = l.map fun (i, x) => (i, s.ev x) := fun l => List.map_congr_left fun x _ => by obtain ⟨i, y⟩ := x; show (i, s.st.ev y) = (i, s.ev y); rw [hev]
  rw [evOp2_eq] at h
  unfold evOp2' at h
  simp only [evAppend2, S2.setH_eq] at h
  unfold evOp
  cases ho : o.op with
  | move x => simp only [ho, force_iff] at h ⊢; rw [hev]; exact ok _ h
  | assign x => simp only [ho, force_iff] at h ⊢; rw [hev]; exact ok _ h
  | alloc t =>
    simp only [ho] at h ⊢
    split at h
    · rename_i h1; simp only [h1]; exact okH (by rw [ho]; rfl) _ _ h
    · exact h.elim
  | box t x =>
    simp only [ho, force_iff] at h ⊢
    rw [hev]
    split at h
    · rename_i h1; simp only [h1]; exact okH (by rw [ho]; rfl) _ _ h
    · exact h.elim
  | build t parts => simp only [ho] at h ⊢; rw [hmap2]; exact (det_build t _).mono ok (evBuild2_imp h)
  | buildSlice t len parts => simp only [ho] at h ⊢; rw [hmap2]; exact (det_buildSlice t len _).mono ok (evBuildSlice2_imp h)
  | load t x => simp only [ho, force_iff] at h ⊢; rw [hev]; exact evLoad_mono ok (evLoad2_imp (σ := s.st) h)
  | store t x y =>
    simp only [ho, force_iff] at h ⊢
    rw [hev, hev]
    exact evStore2_imp (σ := s.st) (evStore2_mono (fun H hk => okH (by rw [ho]; rfl) _ H hk) h)
  | nilCheck x =>
    simp only [ho] at h ⊢
    rw [hev]
    generalize s.ev x = vx at h ⊢
    split at h <;> first | exact ok _ h | exact h.elim
  | binOp op t x y t' => simp only [ho] at h ⊢; rw [hev, hev]; exact (det_bin op t _ _).mono ok (evBin2_imp h)
  | unOp op t x => simp only [ho] at h ⊢; rw [hev]; exact (det_un op _).mono ok h
  | convert src dst x => simp only [ho] at h ⊢; rw [hev]; exact (det_convert src dst _).mono ok h
  | makeFunc fn a b => simp only [ho] at h ⊢; rw [hmap, hmap]; exact ok _ h
  | fieldAddr t x f => simp only [ho] at h ⊢; rw [hev]; exact (det_fieldAddr t f _).mono ok (evFieldAddr2_imp h)
  | field t x f => simp only [ho, force_iff] at h ⊢; rw [hev]; exact (det_field t f _).mono ok (evField2_imp h)
  | index t x i => simp only [ho, force_iff] at h ⊢; rw [hev, hev]; exact (det_index t _ _).mono ok (evIndex2_imp h)
  | indexAddr t x i => simp only [ho] at h ⊢; rw [hev, hev]; exact (det_indexAddr t _ _).mono ok (evIndexAddr2_imp h)
  | pick c x y =>
    simp only [ho, force_iff] at h ⊢
    rw [hev, hev, hev]
    split at h
    · rename_i t hc
      simp only [hc]
      split at h
      · rename_i a b hx hy
        rw [hx, hy]
        refine ⟨fun ht => ?_, fun ht => ?_⟩ <;> subst ht <;> exact ok _ h
      · rw [br_iff] at h
        exact ⟨fun ht => ok _ (h.1 ht), fun ht => ok _ (h.2 ht)⟩
    · exact h.elim
  | extract x i =>
    simp only [ho, force_iff] at h ⊢
    rw [hev]
    split at h
    · rename_i vs hx
      simp only [hx]
      split at h
      · rename_i v hv
        simp only [hv]
        exact ok _ h
      · exact h.elim
    · exact h.elim
  | makeMap t r =>
    cases r with
    | none => simp only [ho] at h ⊢; exact okH (by rw [ho]; rfl) _ _ h
    | some r => simp only [ho] at h
  | mapUpdate t m x y =>
    simp only [ho, force_iff] at h ⊢
    rw [hev, hev, hev]
    exact evInsert2_imp (σ := s.st) (fun H hk => okH (by rw [ho]; rfl) _ H hk) h
  | insert t m x y =>
    simp only [ho, force_iff] at h ⊢
    rw [hev, hev, hev]
    exact evInsert2_imp (σ := s.st) (fun H hk => okH (by rw [ho]; rfl) _ H hk) h
  | lookup t x i b =>
    simp only [ho, force_iff] at h ⊢
    rw [hev, hev]
    exact evLookup2_imp (σ := s.st) (fun v hv => ok v hv) h
  | range t x =>
    simp only [ho] at h ⊢
    rw [hev]
    exact evRange2_imp (σ := s.st) (fun H hk => okH (by rw [ho]; rfl) _ H hk) h
  | next x b =>
    cases b with
    | false =>
      simp only [ho] at h ⊢
      rw [hev]
      exact evNext2_imp (σ := s.st) (fun hk => ok _ hk) (fun x y H hk => okH (by rw [ho]; rfl) _ H hk) h
    | true => simp only [ho] at h
  | entry x =>
    simp only [ho] at h ⊢
    rw [hev]
    exact evEntry2_imp (σ := s.st) (fun v hv => ok v hv) h
  | call c =>
    obtain ⟨callee, args, ts⟩ := c
    simp only [ho] at h ⊢
    cases callee with
    | builtin b =>
      simp only at h ⊢
      cases b with
      | len =>
        simp only at h ⊢
        split at h
        · rename_i x t ha ht
          rw [ha, ht]
          simp only [List.map_cons, List.map_nil, evBuiltin, hev]
          exact (det_len t _).mono ok (evLen2_imp h)
        · exact h.elim
      | append =>
        simp only at h ⊢
        split at h
        · rename_i x y t t' ha ht
          rw [ha, ht]
          simp only [List.map_cons, List.map_nil, evBuiltin, hev]
          unfold evAppend
          split at h
          · rename_i el sz bytes hsl
            simp only [hsl]
            generalize s.ev x = vx at h ⊢
            generalize s.ev y = vy at h ⊢
            split at h
            · rename_i es rows fl es' ys fl'
              rw [grd_iff, Bool.and_eq_true, Bool.and_eq_true, Nat.ble_eq] at h
              obtain ⟨⟨⟨h1, h2⟩, h3⟩, h4, h5, h6, h7, h8, h9⟩ := h
              have hz : (zeroOf P el).map List.length = some sz := by
                split at h3
                · rename_i z hz
                  rw [hz]
                  simpa [Nat.beq_eq] using h3
                · cases h3
              refine ⟨h1, h2, hz, h4, h5, h6, h7, h8, ?_⟩
              cases fl with
              | no => exact h9
              | tight => exact ok _ h9
              | cls c =>
                have := hK (by rw [ho]; rfl) _ { s.dem (· == c) with H := demoteH (· == c) s.H } ⟨(S2.dem_wf hw _).n, (S2.dem_wf hw _).d⟩ (by unfold S2.dem; split <;> rfl) h9
                have he : ({ s.dem (· == c) with H := demoteH (· == c) s.H } : S2).st = { s.st with tmps := s.st.tmps.map (V.demote (· == c)), H := demoteH (· == c) s.st.H } := by
                  have := S2.dem_st (s := s) (· == c)
                  simp only [S2.st] at this ⊢
                  simp only [St.mk.injEq] at this ⊢
                  exact ⟨this.1, trivial, this.2.2.1, this.2.2.2⟩
                rw [he] at this
                exact this
            · exact h.elim
          · exact h.elim
        · exact h.elim
      | min =>
        simp only at h ⊢
        split at h
        · rename_i x y ha
          rw [ha]
          simp only [List.map_cons, List.map_nil, hev]
          split at h
          · rename_i h1 h2
            rw [h1, h2]
            rw [grd_iff, kindEq, decide_eq_true_eq] at h
            exact ⟨h.1, ok _ h.2⟩
          · exact h.elim
        · exact h.elim
      | max =>
        simp only at h ⊢
        split at h
        · rename_i x y ha
          rw [ha]
          simp only [List.map_cons, List.map_nil, hev]
          split at h
          · rename_i h1 h2
            rw [h1, h2]
            rw [grd_iff, kindEq, decide_eq_true_eq] at h
            exact ⟨h.1, ok _ h.2⟩
          · exact h.elim
        · exact h.elim
      | _ => exact h.elim
    | value f =>
      simp only [force_iff] at h ⊢
      rw [hev, hmap]
      have after : ∀ r H', k r { s.dem (heapCls s.H) with H := H' } → K r (s.st.afterCall H') := fun r H' hk => by
        have h1 := hK (by rw [ho]; rfl) _ { s.dem (heapCls s.H) with H := H' } ⟨(S2.dem_wf hw _).n, (S2.dem_wf hw _).d⟩ (by unfold S2.dem; split <;> rfl) hk
        have he : ({ s.dem (heapCls s.H) with H := H' } : S2).st = s.st.afterCall H' := by
          have := S2.dem_st (s := s) (heapCls s.H)
          simp only [S2.st, St.afterCall] at this ⊢
          simp only [St.mk.injEq] at this ⊢
          exact ⟨this.1, trivial, this.2.2.1, this.2.2.2⟩
        rw [he] at h1
        exact h1
      split at h
      · rename_i g a b hf
        simp only [hf]
        exact ⟨h.1, h.2.mono fun r H' hk => after r H' hk⟩
      · rename_i id hf
        simp only [hf]
        exact h.mono fun r H' hk => after r H' hk
      · exact h.elim
    | invoke r m => exact h.elim
  | _ => simp only [ho] at h

theorem evOp2_imp {o : Oper} {s : S2} {k : V → S2 → Prop} {K : V → St → Prop} (hw : s.Wf) (hK : ∀ v s', s'.Wf → s'.n = s.n → k v s' → K v s'.st) (h : evOp2 P G o s k) : evOp P G o s.st K :=
  evOp2_core hw (fun v hv => hK v s hw rfl hv) (fun _ => hK) h

end Go.Abs
