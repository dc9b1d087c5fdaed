/- Abstract values, abstract states, and how they stand to the machine's values and worlds. -/
import Derived.RangeFuncRecord
import Derived.Below
import Derived.Laws.World
import Derived.Laws.Cells
namespace Go.Abs
open Go.RowKit

/-- What may be done with the spare places of a slice: nothing; there are none; they are of a class of the activation's own. -/
inductive Fl where
  | no | tight | cls (c : Nat)
  deriving DecidableEq

inductive V where
  | im (v : Value)
  | str (l : List UInt8)
  | ptr (id off : Nat)
  | rp (cells : List V)
  | dat (es : Nat) (rows : List (List V)) (fl : Fl)
  | arr (id es len : Nat)
  | fn (f : Fn) (first caps : List V)
  | mp (id : Nat)
  | yld (id : Nat)
  | agg (cells : List V)
  | tup (vs : List V)
  | bad

abbrev V.int (k : IntKind) (n : Int) : V := .im (.int k n)
abbrev V.bool (b : Bool) : V := .im (.bool b)

instance : Inhabited V := ⟨.bad⟩

/-- An owned block. -/
inductive Blk where
  | cells (t : TypeId) (vs : List V)
  | map (es : List (V × V)) (clock : Nat)
  | iter (m since stepped : Nat) (seen : List Nat)
  | loop (st : LoopState) (pend : Option Code) (tmps : List V) (params : Array Tmp) (assign body : Code) (def_ : Nat)
  | defd

structure Env where
  N : Nat
  ρ : Nat → Nat
  RO : Nat → Nat → Prop
  Sp : Nat → Nat → Nat → Prop

def cel (w : World) (b o : Nat) : Option Value := w.cell? ⟨b, o, none⟩
def fro (w : World) (b o : Nat) : Bool := w.frozen? ⟨b, o, none⟩

def at2 (rows : List (List V)) (i j : Nat) : Option V := (rows[i]?).bind (·[j]?)

/-- Of what lies in read-only memory: no block of the activation's own is named there. -/
def Env.pure (e : Env) : Env := { e with N := 0 }

/-- Abstract value against machine's value. -/
inductive Rep (w : World) : Env → V → Value → Prop
  | im {e : Env} (v : Value) : Rep w e (.im v) v
  | str {e : Env} (l : List UInt8) : Rep w e (.str l) (.string ⟨⟨l⟩⟩)
  | ptr {e : Env} (id off : Nat) (hid : id < e.N) : Rep w e (.ptr id off) (.pointer (some ⟨e.ρ id, off, none⟩))
  | rp {e : Env} (cs : List V) (b o : Nat) (u : Nat → Value)
      (h1 : ∀ (j : Nat) (v : V), cs[j]? = some v → cel w b (o + j) = some (u j) ∧ e.RO b (o + j))
      (h2 : ∀ (j : Nat) (v : V), cs[j]? = some v → Rep w e.pure v (u j)) :
      Rep w e (.rp cs) (.pointer (some ⟨b, o, none⟩))
  | nil {e : Env} (es : Nat) (fl : Fl) : Rep w e (.dat es [] fl) (.slice none 0 0)
  | dat {e : Env} (es : Nat) (rows : List (List V)) (fl : Fl) (b o cap : Nat) (u : Nat → Nat → Value)
      (hes : ∀ r ∈ rows, r.length = es) (hcap : rows.length ≤ cap) (htight : fl = .tight → cap = rows.length)
      (h1 : ∀ (i j : Nat) (v : V), at2 rows i j = some v → cel w b (o + (i * es + j)) = some (u i j) ∧ e.RO b (o + (i * es + j)))
      (h2 : ∀ (i j : Nat) (v : V), at2 rows i j = some v → Rep w e.pure v (u i j)) :
      Rep w e (.dat es rows fl) (.slice (some ⟨b, o, none⟩) rows.length cap)
  | arr {e : Env} (id es len cap : Nat) (hid : id < e.N) (h : len ≤ cap) : Rep w e (.arr id es len) (.slice (some ⟨e.ρ id, 0, none⟩) len cap)
  | fn {e : Env} (f : Fn) (first caps : List V) (first' caps' : Array Value)
      (hl1 : first.length = first'.size) (hl2 : caps.length = caps'.size)
      (h1 : ∀ (i : Nat) (v : V) (u : Value), first[i]? = some v → first'[i]? = some u → Rep w e v u)
      (h2 : ∀ (i : Nat) (v : V) (u : Value), caps[i]? = some v → caps'[i]? = some u → Rep w e v u) :
      Rep w e (.fn f first caps) (.func f first' caps')
  | mp {e : Env} (id : Nat) (hid : id < e.N) : Rep w e (.mp id) (.map (some (e.ρ id)))
  | yld {e : Env} (id : Nat) (hid : id < e.N) : Rep w e (.yld id) (.func (.yield (e.ρ id)) #[] #[])
  | agg {e : Env} (cs : List V) (us : Array Value) (hl : cs.length = us.size)
      (h : ∀ (i : Nat) (v : V) (u : Value), cs[i]? = some v → us[i]? = some u → Rep w e v u) : Rep w e (.agg cs) (.agg us)
  | tup {e : Env} (cs : List V) (us : Array Value) (hl : cs.length = us.size)
      (h : ∀ (i : Nat) (v : V) (u : Value), cs[i]? = some v → us[i]? = some u → Rep w e v u) : Rep w e (.tup cs) (.tuple us)
  | bad {e : Env} (v : Value) : Rep w e .bad v

/-- What is known of a slice's spare places. -/
def FlagOk (e : Env) : V → Value → Prop
  | .dat es rows (.cls c), .slice (some a) _ cap => (rows = [] → cap = 0) ∧ ∀ k, rows.length * es ≤ k → k < cap * es → e.Sp c a.block (a.off + k)
  | _, _ => True

/-- A value of a temporary, or of a cell of an owned block. -/
def RepF (w : World) (e : Env) (v : V) (u : Value) : Prop := Rep w e v u ∧ FlagOk e v u

/-- Lists of values, place by place. -/
def Reps (w : World) (e : Env) (vs : List V) (us : List Value) : Prop :=
  vs.length = us.length ∧ ∀ (i : Nat) (v : V) (u : Value), vs[i]? = some v → us[i]? = some u → RepF w e v u

inductive RepBlk (w : World) (e : Env) (r : Nat) : Blk → Prop
  | cells (t : TypeId) (vs : List V) (cs : Array Value) (hb : w.heap[r]? = some (.cells cs t (0, 0)))
      (hl : vs.length ≤ cs.size) (h : ∀ (i : Nat) (v : V) (u : Value), vs[i]? = some v → cs[i]? = some u → RepF w e v u) : RepBlk w e r (.cells t vs)
  | map (es : List (V × V)) (ms : Array MapEntry) (clock : Nat) (hb : w.heap[r]? = some (.map ms clock)) (hl : es.length = ms.size)
      (hc : clock = ms.size ∧ ∀ (i : Nat) (m : MapEntry), ms[i]? = some m → m.born = i)
      (h : ∀ (i : Nat) (x : V × V) (m : MapEntry), es[i]? = some x → ms[i]? = some m → Rep w e x.1 m.key ∧ Rep w e x.2 m.val) : RepBlk w e r (.map es clock)
  | loop (st : LoopState) (pend : Option Code) (fn : FuncId) (tmps : List V) (params : Array Tmp) (assign body : Code) (d : Nat) (us : Array Value)
      (hb : w.heap[r]? = some (.loop { state := st, pending := pend, fn, tmps := us, params, assign, body, defers := e.ρ d })) (hd : d < e.N)
      (hl : tmps.length = us.size) (h : ∀ (i : Nat) (v : V) (u : Value), tmps[i]? = some v → us[i]? = some u → Rep w e v u) :
      RepBlk w e r (.loop st pend tmps params assign body d)
  | defd (hb : w.heap[r]? = some (.deferred (some []))) : RepBlk w e r .defd
  | iter (m since stepped : Nat) (seen : List Nat) (hb : w.heap[r]? = some (.mapIter (some (e.ρ m)) since seen.toArray stepped)) (hd : m < e.N) : RepBlk w e r (.iter m since stepped seen)

abbrev Heap := List (Option Blk)

/-- The block number `id` is there. -/
def live (H : Heap) (id : Nat) : Prop := ∃ b, H[id]? = some (some b)

structure RHeap (G : Nat → Option (List V)) (H : Heap) (w : World) (e : Env) : Prop where
  len : e.N = H.length
  blk : ∀ id b, H[id]? = some (some b) → RepBlk w e (e.ρ id) b
  inj : ∀ i j, live H i → live H j → e.ρ i = e.ρ j → i = j
  ro : ∀ b o, e.RO b o → (cel w b o).isSome
  roOwn : ∀ id o, live H id → ¬ e.RO (e.ρ id) o
  sp : ∀ c b o, e.Sp c b o → (cel w b o).isSome ∧ fro w b o = false ∧ ¬ e.RO b o ∧ ∀ id, live H id → e.ρ id ≠ b
  spd : ∀ c c' b o, e.Sp c b o → e.Sp c' b o → c = c'
  glob : ∀ g cs, G g = some cs → Rep w e (.rp cs) (.pointer (some ⟨g, 0, none⟩))

/-- From (H, w, e) to (H', w', e'): only what is owned, and spare places, have been written. -/
structure Ext (H : Heap) (w : World) (e : Env) (H' : Heap) (w' : World) (e' : Env) : Prop where
  os : w'.os = w.os
  tape : w'.tape = w.tape
  output : w'.output = w.output
  size : w.heap.size ≤ w'.heap.size
  len : H.length ≤ H'.length
  ρ : ∀ id, id < H.length → e'.ρ id = e.ρ id
  new : ∀ id, H.length ≤ id → live H' id → w.heap.size ≤ e'.ρ id
  old : ∀ id, id < H.length → live H' id → live H id
  ro : ∀ b o, e.RO b o → e'.RO b o
  roNew : ∀ b o, e'.RO b o → e.RO b o ∨ w.heap.size ≤ b ∨ (∃ c, e.Sp c b o) ∨ ∃ id, live H id ∧ e.ρ id = b
  spNew : ∀ c b o, e'.Sp c b o → w.heap.size ≤ b ∨ ∃ c', e.Sp c' b o
  cell : ∀ b o, b < w.heap.size → (∀ id, live H id → e.ρ id ≠ b) → (∀ c, ¬ e.Sp c b o) → cel w' b o = cel w b o ∧ fro w' b o = fro w b o
  block : ∀ b, b < w.heap.size → (∀ id, live H id → e.ρ id ≠ b) → (∀ c o, ¬ e.Sp c b o) → w'.heap[b]? = w.heap[b]?

theorem Ext.refl (H : Heap) (w : World) (e : Env) : Ext H w e H w e where
  os := rfl
  tape := rfl
  output := rfl
  size := Nat.le_refl _
  len := Nat.le_refl _
  ρ := fun _ _ => rfl
  new := fun id h ⟨b, hb⟩ => by
    have := (List.getElem?_eq_some_iff.1 hb).1
    omega
  old := fun _ _ h => h
  ro := fun _ _ h => h
  roNew := fun _ _ h => .inl h
  spNew := fun c _ _ h => .inr ⟨c, h⟩
  cell := fun _ _ _ _ _ => ⟨rfl, rfl⟩
  block := fun _ _ _ _ => rfl

theorem Ext.trans {H H1 H2 : Heap} {w w1 w2 : World} {e e1 e2 : Env} (h : Ext H w e H1 w1 e1) (k : Ext H1 w1 e1 H2 w2 e2) : Ext H w e H2 w2 e2 := by
  have own : ∀ b, b < w.heap.size → (∀ id, live H id → e.ρ id ≠ b) → ∀ id, live H1 id → e1.ρ id ≠ b := by
    intro b hb ho id hl
    by_cases hid : id < H.length
    · rw [h.ρ id hid]; exact ho id (h.old id hid hl)
    · have := h.new id (by omega) hl; omega
  have spare : ∀ b o, b < w.heap.size → (∀ c, ¬ e.Sp c b o) → ∀ c, ¬ e1.Sp c b o := by
    intro b o hb hs c hc
    rcases h.spNew c b o hc with h1 | ⟨c', h1⟩
    · omega
    · exact hs c' h1
  refine ⟨k.os.trans h.os, k.tape.trans h.tape, k.output.trans h.output, Nat.le_trans h.size k.size, Nat.le_trans h.len k.len, ?_, ?_, ?_, ?_, ?_, ?_, ?_, ?_⟩
  · intro id hid
    rw [k.ρ id (by have := h.len; omega), h.ρ id hid]
  · intro id hid hl
    by_cases h1 : id < H1.length
    · rw [k.ρ id h1]; exact h.new id hid (k.old id h1 hl)
    · have := k.new id (by omega) hl; have := h.size; omega
  · intro id hid hl
    exact h.old id hid (k.old id (by have := h.len; omega) hl)
  · exact fun b o hr => k.ro b o (h.ro b o hr)
  · intro b o hr
    rcases k.roNew b o hr with h1 | h1 | ⟨c, h1⟩ | ⟨id, h1, h2⟩
    · exact h.roNew b o h1
    · have := h.size; exact .inr (.inl (by omega))
    · rcases h.spNew c b o h1 with h2 | h2
      · exact .inr (.inl h2)
      · exact .inr (.inr (.inl h2))
    · by_cases hid : id < H.length
      · exact .inr (.inr (.inr ⟨id, h.old id hid h1, by rw [← h.ρ id hid]; exact h2⟩))
      · have := h.new id (by omega) h1; exact .inr (.inl (by omega))
  · intro c b o hs
    rcases k.spNew c b o hs with h1 | ⟨c', h1⟩
    · have := h.size; exact .inl (by omega)
    · exact h.spNew c' b o h1
  · intro b o hb ho hs
    have h1 := h.cell b o hb ho hs
    have h2 := k.cell b o (by have := h.size; omega) (own b hb ho) (spare b o hb hs)
    exact ⟨h2.1.trans h1.1, h2.2.trans h1.2⟩
  · intro b hb ho hs
    exact (k.block b (by have := h.size; omega) (own b hb ho) (fun c o => spare b o hb (fun c => hs c o) c)).trans (h.block b hb ho hs)

/-! ### Values stay what they are -/

theorem lt_of_cel {w : World} {b o : Nat} (h : (cel w b o).isSome) : b < w.heap.size := by
  unfold cel World.cell? at h
  by_cases hb : b < w.heap.size
  · exact hb
  · simp [Array.getElem?_eq_none (by omega : w.heap.size ≤ b)] at h

theorem Ext.roCell {G : Nat → Option (List V)} {H H' : Heap} {w w' : World} {e e' : Env} (hR : RHeap G H w e) (h : Ext H w e H' w' e') {b o : Nat} (hro : e.RO b o) : cel w' b o = cel w b o :=
  (h.cell b o (lt_of_cel (hR.ro b o hro)) (fun id hl he => hR.roOwn id o hl (he ▸ hro)) (fun c hc => (hR.sp c b o hc).2.2.1 hro)).1

theorem Rep.mono' {w w' : World} {e e' : Env} (hN : e.N ≤ e'.N) (hρ : ∀ id, id < e.N → e'.ρ id = e.ρ id)
    (hro : ∀ b o, e.RO b o → e'.RO b o ∧ cel w' b o = cel w b o) {v : V} {u : Value} (h : Rep w e v u) : Rep w' e' v u := by
  induction h generalizing e' with
  | im v => exact .im v
  | str l => exact .str l
  | ptr id off hid => rw [← hρ id hid]; exact .ptr id off (by omega)
  | rp cs b o u h1 h2 ih =>
    exact .rp cs b o u (fun j v hj => ⟨(hro _ _ (h1 j v hj).2).2.trans (h1 j v hj).1, (hro _ _ (h1 j v hj).2).1⟩)
      (fun j v hj => ih j v hj (Nat.le_refl _) (fun _ h => absurd h (Nat.not_lt_zero _)) hro)
  | nil es fl => exact .nil es fl
  | dat es rows fl b o cap u hes hcap ht h1 h2 ih =>
    exact .dat es rows fl b o cap u hes hcap ht (fun i j v hj => ⟨(hro _ _ (h1 i j v hj).2).2.trans (h1 i j v hj).1, (hro _ _ (h1 i j v hj).2).1⟩)
      (fun i j v hj => ih i j v hj (Nat.le_refl _) (fun _ h => absurd h (Nat.not_lt_zero _)) hro)
  | arr id es len cap hid h => rw [← hρ id hid]; exact .arr id es len cap (by omega) h
  | fn f first caps first' caps' hl1 hl2 h1 h2 ih1 ih2 => exact .fn f first caps first' caps' hl1 hl2 (fun i v u hv hu => ih1 i v u hv hu hN hρ hro) (fun i v u hv hu => ih2 i v u hv hu hN hρ hro)
  | mp id hid => rw [← hρ id hid]; exact .mp id (by omega)
  | yld id hid => rw [← hρ id hid]; exact .yld id (by omega)
  | agg cs us hl h ih => exact .agg cs us hl fun i v u hv hu => ih i v u hv hu hN hρ hro
  | tup cs us hl h ih => exact .tup cs us hl fun i v u hv hu => ih i v u hv hu hN hρ hro
  | bad v => exact .bad v

/-- What lies in read-only memory may be held. -/
theorem Rep.held {w : World} {e : Env} {v : V} {u : Value} (h : Rep w e.pure v u) : Rep w e v u :=
  h.mono' (e := e.pure) (e' := e) (Nat.zero_le _) (fun _ h => absurd h (Nat.not_lt_zero _)) fun _ _ h => ⟨h, rfl⟩

theorem Rep.ext {G : Nat → Option (List V)} {H H' : Heap} {w w' : World} {e e' : Env} (hR : RHeap G H w e) (hR' : RHeap G H' w' e') (hx : Ext H w e H' w' e')
    {v : V} {u : Value} (h : Rep w e v u) : Rep w' e' v u :=
  h.mono' (by rw [hR.len, hR'.len]; exact hx.len) (fun id hid => hx.ρ id (by rw [← hR.len]; exact hid)) (fun b o hr => ⟨hx.ro b o hr, hx.roCell hR hr⟩)

theorem FlagOk.mono {e e' : Env} {v : V} {u : Value} (hsp : ∀ es rows c, v = .dat es rows (.cls c) → ∀ b o, e.Sp c b o → e'.Sp c b o) (h : FlagOk e v u) : FlagOk e' v u := by
  unfold FlagOk at *
  split
  · rename_i es rows c a n cap
    exact ⟨h.1, fun k h1 h2 => hsp es rows c rfl _ _ (h.2 k h1 h2)⟩
  · trivial

end Go.Abs
