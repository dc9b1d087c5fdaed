/- New blocks, stores, and what they leave as it was. -/
import Derived.Test.YteklnflddoekfaaDoorAbsSound1
namespace Go.Abs
open Go.RowKit

variable {P : Program} {G : Nat → Option (List V)}

/-- What keeps every value as it was. -/
structure Mono (w : World) (e : Env) (w' : World) (e' : Env) : Prop where
  N : e.N ≤ e'.N
  ρ : ∀ id, id < e.N → e'.ρ id = e.ρ id
  ro : ∀ b o, e.RO b o → e'.RO b o ∧ cel w' b o = cel w b o
  sp : ∀ c b o, e.Sp c b o → e'.Sp c b o

theorem Mono.refl (w : World) (e : Env) : Mono w e w e := ⟨Nat.le_refl _, fun _ _ => rfl, fun _ _ h => ⟨h, rfl⟩, fun _ _ _ h => h⟩

theorem Mono.pure {w w' : World} {e e' : Env} (m : Mono w e w' e') : Mono w e.pure w' e'.pure := ⟨Nat.le_refl _, fun _ h => absurd h (Nat.not_lt_zero _), m.ro, m.sp⟩

theorem Rep.mono {w w' : World} {e e' : Env} {v : V} {u : Value} (h : Rep w e v u) (m : Mono w e w' e') : Rep w' e' v u := h.mono' m.N m.ρ m.ro
theorem RepF.mono {w w' : World} {e e' : Env} {v : V} {u : Value} (h : RepF w e v u) (m : Mono w e w' e') : RepF w' e' v u :=
  ⟨h.1.mono m, h.2.mono fun _ _ c _ => m.sp c⟩
theorem Reps.mono {w w' : World} {e e' : Env} {vs : List V} {us : List Value} (h : Reps w e vs us) (m : Mono w e w' e') : Reps w' e' vs us :=
  ⟨h.1, fun i v u hv hu => (h.2 i v u hv hu).mono m⟩

theorem RepBlk.mono {w w' : World} {e e' : Env} {r : Nat} {b : Blk} (h : RepBlk w e r b) (m : Mono w e w' e') (hb : w'.heap[r]? = w.heap[r]?) : RepBlk w' e' r b := by
  cases h with
  | cells t vs cs hc hl h => exact .cells t vs cs (hb.trans hc) hl fun i v u hv hu => (h i v u hv hu).mono m
  | map es ms clock hc hl hk h => exact .map es ms clock (hb.trans hc) hl hk fun i x y hx hy => ⟨(h i x y hx hy).1.mono m, (h i x y hx hy).2.mono m⟩
  | iter k since stepped seen hc hd => exact .iter k since stepped seen (by rw [hb, hc, m.ρ k hd]) (Nat.lt_of_lt_of_le hd m.N)
  | loop st pend fn tmps params assign body d us hc hd hl h =>
    exact .loop st pend fn tmps params assign body d us (by rw [hb, hc, m.ρ d hd]) (Nat.lt_of_lt_of_le hd m.N) hl fun i v u hv hu => (h i v u hv hu).mono m
  | defd hc => exact .defd (hb.trans hc)

theorem RepBlk.lt {w : World} {e : Env} {r : Nat} {b : Blk} (h : RepBlk w e r b) : r < w.heap.size := by
  cases h <;> rename_i hc <;> first
    | exact (Array.getElem?_eq_some_iff.1 ‹w.heap[r]? = _›).1

theorem RHeap.liveLt {H : Heap} {w : World} {e : Env} (h : RHeap G H w e) {id : Nat} (hl : live H id) : e.ρ id < w.heap.size := by
  obtain ⟨b, hb⟩ := hl
  exact (h.blk id b hb).lt

theorem live_lt {H : Heap} {id : Nat} (h : live H id) : id < H.length := by
  obtain ⟨b, hb⟩ := h
  exact (List.getElem?_eq_some_iff.1 hb).1

/-! ### a new block -/
def Env.push (e : Env) (r : Nat) : Env := { e with N := e.N + 1, ρ := fun id => if id = e.N then r else e.ρ id }

theorem Env.push_old (e : Env) (r : Nat) {id : Nat} (h : id < e.N) : (e.push r).ρ id = e.ρ id := by
  simp [Env.push]; omega
theorem Env.push_new (e : Env) (r : Nat) : (e.push r).ρ e.N = r := by simp [Env.push]

theorem cel_alloc (w : World) (o : Obj) {b : Nat} (h : b < w.heap.size) (i : Nat) : cel (w.alloc o) b i = cel w b i := by
  unfold cel World.cell?
  rw [Below.heap_alloc w o b h]
theorem fro_alloc (w : World) (o : Obj) {b : Nat} (h : b < w.heap.size) (i : Nat) : fro (w.alloc o) b i = fro w b i := by
  unfold fro World.frozen?
  rw [Below.heap_alloc w o b h]

theorem Mono.push {H : Heap} {w : World} {e : Env} (hR : RHeap G H w e) (o : Obj) (r : Nat) : Mono w e (w.alloc o) (e.push r) where
  N := by simp [Env.push]
  ρ := fun id h => e.push_old r h
  ro := fun b i h => ⟨h, cel_alloc w o (lt_of_cel (hR.ro b i h)) i⟩
  sp := fun _ _ _ h => h

theorem live_push {H : Heap} {x : Option Blk} {id : Nat} (h : live (H ++ [x]) id) : live H id ∨ (id = H.length ∧ x.isSome) := by
  obtain ⟨b, hb⟩ := h
  by_cases hid : id < H.length
  · rw [List.getElem?_append_left hid] at hb
    exact .inl ⟨b, hb⟩
  · rw [List.getElem?_append_right (by omega)] at hb
    by_cases h0 : id - H.length = 0
    · rw [h0] at hb
      simp at hb
      exact .inr ⟨by omega, by simp [hb]⟩
    · obtain ⟨k, hk⟩ : ∃ k, id - H.length = k + 1 := ⟨id - H.length - 1, by omega⟩
      rw [hk] at hb
      simp at hb

theorem live_push_old {H : Heap} {x : Option Blk} {id : Nat} (h : live H id) : live (H ++ [x]) id := by
  obtain ⟨b, hb⟩ := h
  exact ⟨b, by rw [List.getElem?_append_left (List.getElem?_eq_some_iff.1 hb).1]; exact hb⟩

theorem RHeap.push {H : Heap} {w : World} {e : Env} (hR : RHeap G H w e) (o : Obj) (b : Blk) (hb : RepBlk (w.alloc o) (e.push w.heap.size) w.heap.size b) :
    RHeap G (H ++ [some b]) (w.alloc o) (e.push w.heap.size) ∧ Ext H w e (H ++ [some b]) (w.alloc o) (e.push w.heap.size) := by
  have hN := hR.len
  have m : Mono w e (w.alloc o) (e.push w.heap.size) := Mono.push hR o _
  have hnew : ∀ id, live (H ++ [some b]) id → (live H id ∧ (e.push w.heap.size).ρ id = e.ρ id) ∨ (id = H.length ∧ (e.push w.heap.size).ρ id = w.heap.size) := by
    intro id hl
    rcases live_push hl with h | ⟨h, _⟩
    · exact .inl ⟨h, e.push_old _ (by rw [hN]; exact live_lt h)⟩
    · exact .inr ⟨h, by rw [h, ← hN]; exact e.push_new _⟩
  refine ⟨⟨by simp [Env.push, hN], ?_, ?_, ?_, ?_, ?_, ?_, ?_⟩, ⟨rfl, rfl, rfl, by simp, by simp, ?_, ?_, ?_, ?_, ?_, ?_, ?_, ?_⟩⟩
  · intro id b' hb'
    rcases hnew id ⟨b', hb'⟩ with ⟨h, he⟩ | ⟨h, he⟩
    · rw [List.getElem?_append_left (live_lt h)] at hb'
      rw [he]
      exact (hR.blk id b' hb').mono m (Below.heap_alloc _ _ _ (hR.blk id b' hb').lt)
    · rw [he]
      subst h
      rw [List.getElem?_append_right (Nat.le_refl _)] at hb'
      simp at hb'
      subst hb'
      exact hb
  · intro i j hi hj he
    rcases hnew i hi with ⟨h1, e1⟩ | ⟨h1, e1⟩ <;> rcases hnew j hj with ⟨h2, e2⟩ | ⟨h2, e2⟩
    · exact hR.inj i j h1 h2 (by rw [← e1, ← e2]; exact he)
    · have := hR.liveLt h1; rw [e1, e2] at he; omega
    · have := hR.liveLt h2; rw [e1, e2] at he; omega
    · omega
  · intro b' i h
    have h1 := hR.ro b' i h
    rw [cel_alloc w o (lt_of_cel h1)]
    exact h1
  · intro id i hl hro
    rcases hnew id hl with ⟨h, he⟩ | ⟨h, he⟩
    · exact hR.roOwn id i h (he ▸ hro)
    · have := lt_of_cel (hR.ro _ _ hro); rw [he] at this; omega
  · intro c b' i h
    obtain ⟨h1, h2, h3, h4⟩ := hR.sp c b' i h
    have hlt := lt_of_cel h1
    refine ⟨by rw [cel_alloc w o hlt]; exact h1, by rw [fro_alloc w o hlt]; exact h2, h3, fun id hl he => ?_⟩
    rcases hnew id hl with ⟨h, he'⟩ | ⟨h, he'⟩
    · exact h4 id h (by rw [← he']; exact he)
    · rw [he'] at he; omega
  · exact hR.spd
  · exact fun g cs h => (hR.glob g cs h).mono m
  · exact fun id hid => e.push_old _ (by omega)
  · intro id hid hl
    rcases hnew id hl with ⟨h, _⟩ | ⟨_, he⟩
    · have := live_lt h; omega
    · rw [he]; exact Nat.le_refl _
  · intro id hid hl
    rcases hnew id hl with ⟨h, _⟩ | ⟨h, _⟩
    · exact h
    · omega
  · exact fun _ _ h => h
  · exact fun _ _ h => .inl h
  · exact fun c _ _ h => .inr ⟨c, h⟩
  · exact fun b' i hb' _ _ => ⟨cel_alloc w o hb' i, fro_alloc w o hb' i⟩
  · exact fun b' hb' _ _ => Below.heap_alloc _ _ _ hb'

theorem RSt.push {σ : St} {a : Act} {w : World} {e : Env} (h : RSt G σ a w e) (o : Obj) (b : Blk) (hb : RepBlk (w.alloc o) (e.push w.heap.size) w.heap.size b) :
    RSt G { σ with H := σ.H ++ [some b] } a (w.alloc o) (e.push w.heap.size) := by
  have m : Mono w e (w.alloc o) (e.push w.heap.size) := Mono.push h.heap o _
  refine ⟨(h.heap.push o b hb).1, h.tmps.mono m, ?_, fun id hid => Nat.lt_of_lt_of_le (h.defsN id hid) m.N, fun id hid => Nat.lt_of_lt_of_le (h.cur id hid) m.N⟩
  rw [h.defs]
  refine List.map_congr_left fun id hid => ?_
  rw [m.ρ id (h.defsN id hid)]

theorem reps_cells {w : World} {e : Env} {v : V} {u : Value} {cs : List V} (h : RepF w e v u) (hc : v.cellsF = some cs) : Reps w e cs u.cells.toList := by
  obtain ⟨h1, h2⟩ := h
  have one : ∀ v u, RepF w e v u → Reps w e [v] [u] := fun v u h => ⟨rfl, fun i x y hx hy => by
    cases i with
    | zero => simp at hx hy; subst hx; subst hy; exact h
    | succ i => simp at hx⟩
  cases h1 with
  | agg cs' us hl h =>
    simp only [V.cellsF, Option.some.injEq] at hc
    subst hc
    refine ⟨by simpa [Value.cells] using hl, fun i x y hx hy => ?_⟩
    rw [List.getElem?_map] at hx
    obtain ⟨x', hx', rfl⟩ := Option.map_eq_some_iff.1 hx
    exact (h i x' y hx' (by simpa [Value.cells] using hy)).strip
  | im =>
    cases u <;> simp only [V.cellsF, Option.some.injEq, reduceCtorEq] at hc <;> subst hc <;> exact one _ _ ⟨.im _, h2⟩
  | bad => simp [V.cellsF] at hc
  | tup cs' us hl h => simp [V.cellsF] at hc
  | str l => simp only [V.cellsF, Option.some.injEq] at hc; subst hc; exact one _ _ ⟨.str l, h2⟩
  | ptr id off hid => simp only [V.cellsF, Option.some.injEq] at hc; subst hc; exact one _ _ ⟨.ptr id off hid, h2⟩
  | rp cs' b o us h1 h3 => simp only [V.cellsF, Option.some.injEq] at hc; subst hc; exact one _ _ ⟨.rp cs' b o us h1 h3, h2⟩
  | nil es fl => simp only [V.cellsF, Option.some.injEq] at hc; subst hc; exact one _ _ ⟨.nil es fl, h2⟩
  | dat es rows fl b o cap us hes hcap ht h1 h3 => simp only [V.cellsF, Option.some.injEq] at hc; subst hc; exact one _ _ ⟨.dat es rows fl b o cap us hes hcap ht h1 h3, h2⟩
  | arr id es len cap hid h => simp only [V.cellsF, Option.some.injEq] at hc; subst hc; exact one _ _ ⟨.arr id es len cap hid h, h2⟩
  | fn f first caps first' caps' hl1 hl2 h1 h3 => simp only [V.cellsF, Option.some.injEq] at hc; subst hc; exact one _ _ ⟨.fn f first caps first' caps' hl1 hl2 h1 h3, h2⟩
  | mp id hid => simp only [V.cellsF, Option.some.injEq] at hc; subst hc; exact one _ _ ⟨.mp id hid, h2⟩
  | yld id hid => simp only [V.cellsF, Option.some.injEq] at hc; subst hc; exact one _ _ ⟨.yld id hid, h2⟩

theorem repBlk_new {H : Heap} {w : World} {e : Env} {vs : List V} {us : Array Value} (hR : RHeap G H w e) (t : TypeId) (h : Reps w e vs us.toList) :
    RepBlk (w.alloc (.cells us t)) (e.push w.heap.size) w.heap.size (.cells t vs) :=
  .cells t vs us (World.alloc_heap_new w _) (by have := h.1; simp at this; omega) fun i v u hv hu => (h.2 i v u hv (by simpa using hu)).mono (Mono.push hR _ _)

theorem run_newVar (t : TypeId) (v : Value) (w : World) : (newVar t v).run P w = .ok ⟨w.heap.size, 0, none⟩ (w.alloc (.cells v.cells t)) := rfl

/-- A new block of cells. -/
theorem opDone_new {o : Oper} {σ : St} {a : Act} {w : World} {e : Env} {k : V → St → Prop} (h : RSt G σ a w e) (t : TypeId) {u : Value} {cs : List V}
    (hr : (execOp a.eval o).run P w = .ok (.value (.pointer (some ⟨w.heap.size, 0, none⟩))) (w.alloc (.cells u.cells t))) (hc : Reps w e cs u.cells.toList)
    (hk : k (.ptr σ.H.length 0) { σ with H := σ.H ++ [some (.cells t cs)] }) : OpDone P G o σ a w e k := by
  have hb := repBlk_new h.heap t hc
  refine ⟨_, _, _, _, e.push w.heap.size, .inl hr, hk, rfl, h.push _ _ hb, ⟨?_, trivial⟩, (h.heap.push _ _ hb).2⟩
  have := Rep.ptr (w := w.alloc (.cells u.cells t)) (e := e.push w.heap.size) e.N 0 (by simp [Env.push])
  rw [Env.push_new, h.heap.len] at this
  exact this

theorem op_box {o : Oper} {σ : St} {a : Act} {w : World} {e : Env} {k : V → St → Prop} (h : RSt G σ a w e) (t : TypeId) (x : Operand) (ho : o.op = .box t x) (hk : evOp P G o σ k) :
    OpDone P G o σ a w e k := by
  simp only [evOp, ho] at hk
  cases hc : (σ.ev x).cellsF with
  | none => rw [hc] at hk; exact hk.elim
  | some cs =>
    rw [hc] at hk
    refine opDone_new h t (u := a.eval x) ?_ (reps_cells (h.ev x) hc) hk
    simp only [execOp, ho]
    exact run_value rfl

theorem zeroOf_some {t : TypeId} {cs : List V} (h : zeroOf P t = some cs) : ∃ i v, P.info? t = some i ∧ i.zero = some v ∧ ∀ w e, Reps w e cs v.cells.toList := by
  unfold zeroOf at h
  cases hi : P.info? t with
  | none => simp [hi] at h
  | some i =>
    cases hz : i.zero with
    | none => simp [hi, hz] at h
    | some v =>
      refine ⟨i, v, rfl, hz, fun w e => ?_⟩
      simp only [hi, hz, Option.bind_some] at h
      split at h
      · rename_i us he
        simp only [Option.some.injEq] at he h
        subst he; subst h
        refine ⟨by simp [Value.cells], fun j x y hx hy => ?_⟩
        rw [List.getElem?_map] at hx
        obtain ⟨x', hx', rfl⟩ := Option.map_eq_some_iff.1 hx
        have hy' : us.toList[j]? = some y := by simpa [Value.cells] using hy
        rw [hx'] at hy'
        simp only [Option.some.injEq] at hy'
        subst hy'
        exact rep_absV w e _
      · rename_i v' hne he
        simp only [Option.some.injEq] at he h
        subst h
        rw [he]
        have : v'.cells = #[v'] := by
          cases v' <;> first | rfl | exact (hne _ rfl).elim
        rw [this]
        refine ⟨rfl, fun j x y hx hy => ?_⟩
        cases j with
        | zero => simp at hx hy; subst hx; subst hy; exact rep_absV w e _
        | succ j => simp at hx
      · cases h

theorem op_alloc {o : Oper} {σ : St} {a : Act} {w : World} {e : Env} {k : V → St → Prop} (h : RSt G σ a w e) (t : TypeId) (ho : o.op = .alloc t) (hk : evOp P G o σ k) :
    OpDone P G o σ a w e k := by
  simp only [evOp, ho] at hk
  cases hc : zeroOf P t with
  | none => rw [hc] at hk; exact hk.elim
  | some cs =>
    rw [hc] at hk
    obtain ⟨i, v, hi, hz, hr⟩ := zeroOf_some hc
    refine opDone_new h t (u := v) ?_ (hr w e) hk
    simp only [execOp, ho]
    refine run_value ?_
    unfold Instr.alloc zeroValue
    rw [Sem.run_bind, Sem.run_bind, run_typeInfo' hi]
    simp only [Result.andThen, hz]
    rfl

theorem op_move {o : Oper} {σ : St} {a : Act} {w : World} {e : Env} {k : V → St → Prop} (h : RSt G σ a w e) (x : Operand) (ho : o.op = .move x ∨ o.op = .assign x) (hk : evOp P G o σ k) :
    OpDone P G o σ a w e k := by
  rcases ho with ho | ho <;>
  · simp only [evOp, ho] at hk
    exact opDone_pure h (u := a.eval x) (by simp only [execOp, ho]; rfl) hk (h.ev x)

end Go.Abs
