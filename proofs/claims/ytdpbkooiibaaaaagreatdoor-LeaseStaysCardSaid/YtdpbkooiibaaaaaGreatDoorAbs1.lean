/- The walk over abstract states. -/
import Derived.RangeFuncRecord
import Derived.Below
import Derived.Laws.World
import Derived.Laws.Cells
import Derived.Laws.Sem
import Derived.Laws.Strings
import Derived.Laws.StructEq
import Derived.ChangeKeysEq
import Derived.Laws.IdiomStrings
import Derived.Laws.AppendOwn

set_option linter.unusedVariables false
set_option linter.unusedSimpArgs false
/-! Core -/
/- Abstract values, abstract states, and how they stand to the machine's values and worlds. -/
namespace Go.Abs
open Go.RowKit

/-- What may be done with the spare places of a slice: nothing; there are none; they are of a class of the activation's own. -/
inductive Fl where
  | no | tight | cls (c : Nat)
  deriving DecidableEq

inductive V where
  | im (v : Value)
  | str (l : List UInt8)
  | ptr (id off : Nat)
  | rp (cells : List V)
  | dat (es : Nat) (rows : List (List V)) (fl : Fl)
  | arr (id es len : Nat)
  | sub (id es off len : Nat)
  | fn (f : Fn) (first caps : List V)
  | mp (id : Nat)
  | yld (id : Nat)
  | agg (cells : List V)
  | tup (vs : List V)
  | bad

abbrev V.int (k : IntKind) (n : Int) : V := .im (.int k n)
abbrev V.bool (b : Bool) : V := .im (.bool b)

instance : Inhabited V := ⟨.bad⟩

/-- An owned block. -/
inductive Blk where
  | cells (t : TypeId) (vs : List V)
  | map (es : List (V × V)) (clock : Nat)
  | iter (m since stepped : Nat) (seen : List Nat)
  | loop (st : LoopState) (pend : Option Code) (tmps : List V) (params : Array Tmp) (assign body : Code) (def_ : Nat)
  | defd

structure Env where
  N : Nat
  ρ : Nat → Nat
  RO : Nat → Nat → Prop
  Sp : Nat → Nat → Nat → Prop

def cel (w : World) (b o : Nat) : Option Value := w.cell? ⟨b, o, none⟩
def fro (w : World) (b o : Nat) : Bool := w.frozen? ⟨b, o, none⟩

def at2 (rows : List (List V)) (i j : Nat) : Option V := (rows[i]?).bind (·[j]?)

/-- Of what lies in read-only memory: no block of the activation's own is named there. -/
def Env.pure (e : Env) : Env := { e with N := 0 }

/-- Abstract value against machine's value. -/
inductive Rep (w : World) : Env → V → Value → Prop
  | im {e : Env} (v : Value) : Rep w e (.im v) v
  | str {e : Env} (l : List UInt8) : Rep w e (.str l) (.string ⟨⟨l⟩⟩)
  | ptr {e : Env} (id off : Nat) (hid : id < e.N) : Rep w e (.ptr id off) (.pointer (some ⟨e.ρ id, off, none⟩))
  | rp {e : Env} (cs : List V) (b o : Nat) (u : Nat → Value)
      (h1 : ∀ (j : Nat) (v : V), cs[j]? = some v → cel w b (o + j) = some (u j) ∧ e.RO b (o + j))
      (h2 : ∀ (j : Nat) (v : V), cs[j]? = some v → Rep w e.pure v (u j)) :
      Rep w e (.rp cs) (.pointer (some ⟨b, o, none⟩))
  | nil {e : Env} (es : Nat) (fl : Fl) : Rep w e (.dat es [] fl) (.slice none 0 0)
  | nul {e : Env} (es : Nat) (fl : Fl) (a : Addr) : Rep w e (.dat es [] fl) (.slice (some a) 0 0)
  | dat {e : Env} (es : Nat) (rows : List (List V)) (fl : Fl) (b o cap : Nat) (u : Nat → Nat → Value)
      (hes : ∀ r ∈ rows, r.length = es) (hcap : rows.length ≤ cap) (htight : fl = .tight → cap = rows.length)
      (h1 : ∀ (i j : Nat) (v : V), at2 rows i j = some v → cel w b (o + (i * es + j)) = some (u i j) ∧ e.RO b (o + (i * es + j)))
      (h2 : ∀ (i j : Nat) (v : V), at2 rows i j = some v → Rep w e.pure v (u i j)) :
      Rep w e (.dat es rows fl) (.slice (some ⟨b, o, none⟩) rows.length cap)
  | arr {e : Env} (id es len cap : Nat) (hid : id < e.N) (h : len ≤ cap) : Rep w e (.arr id es len) (.slice (some ⟨e.ρ id, 0, none⟩) len cap)
  | sub {e : Env} (id es off len cap o : Nat) (hid : id < e.N) (h : len ≤ cap) (ho : 0 < len → o = off) : Rep w e (.sub id es off len) (.slice (some ⟨e.ρ id, o, none⟩) len cap)
  | fn {e : Env} (f : Fn) (first caps : List V) (first' caps' : Array Value)
      (hl1 : first.length = first'.size) (hl2 : caps.length = caps'.size)
      (h1 : ∀ (i : Nat) (v : V) (u : Value), first[i]? = some v → first'[i]? = some u → Rep w e v u)
      (h2 : ∀ (i : Nat) (v : V) (u : Value), caps[i]? = some v → caps'[i]? = some u → Rep w e v u) :
      Rep w e (.fn f first caps) (.func f first' caps')
  | mp {e : Env} (id : Nat) (hid : id < e.N) : Rep w e (.mp id) (.map (some (e.ρ id)))
  | yld {e : Env} (id : Nat) (hid : id < e.N) : Rep w e (.yld id) (.func (.yield (e.ρ id)) #[] #[])
  | agg {e : Env} (cs : List V) (us : Array Value) (hl : cs.length = us.size)
      (h : ∀ (i : Nat) (v : V) (u : Value), cs[i]? = some v → us[i]? = some u → Rep w e v u) : Rep w e (.agg cs) (.agg us)
  | tup {e : Env} (cs : List V) (us : Array Value) (hl : cs.length = us.size)
      (h : ∀ (i : Nat) (v : V) (u : Value), cs[i]? = some v → us[i]? = some u → Rep w e v u) : Rep w e (.tup cs) (.tuple us)
  | bad {e : Env} (v : Value) : Rep w e .bad v

/-- What is known of a slice's spare places. -/
def FlagOk (e : Env) : V → Value → Prop
  | .dat es rows (.cls c), .slice (some a) _ cap => (rows = [] → cap = 0 ∨ es ≠ 0) ∧ ∀ k, rows.length * es ≤ k → k < cap * es → e.Sp c a.block (a.off + k)
  | _, _ => True

/-- May rows of that many cells be laid behind these? -/
def AppOk (rows : List (List V)) (es s : Nat) : Fl → Prop
  | .cls _ => (rows = [] ∧ es = 0) ∨ es = s
  | _ => rows = [] ∨ es = s
theorem AppOk.or {rows : List (List V)} {es s : Nat} {fl : Fl} (h : AppOk rows es s fl) : rows = [] ∨ es = s := by
  unfold AppOk at h
  split at h
  · exact h.imp And.left id
  · exact h

/-- A value of a temporary, or of a cell of an owned block. -/
def RepF (w : World) (e : Env) (v : V) (u : Value) : Prop := Rep w e v u ∧ FlagOk e v u

/-- Lists of values, place by place. -/
def Reps (w : World) (e : Env) (vs : List V) (us : List Value) : Prop :=
  vs.length = us.length ∧ ∀ (i : Nat) (v : V) (u : Value), vs[i]? = some v → us[i]? = some u → RepF w e v u

inductive RepBlk (w : World) (e : Env) (r : Nat) : Blk → Prop
  | cells (t : TypeId) (vs : List V) (cs : Array Value) (hb : w.heap[r]? = some (.cells cs t (0, 0)))
      (hl : vs.length ≤ cs.size) (h : ∀ (i : Nat) (v : V) (u : Value), vs[i]? = some v → cs[i]? = some u → RepF w e v u) : RepBlk w e r (.cells t vs)
  | map (es : List (V × V)) (ms : Array MapEntry) (clock : Nat) (hb : w.heap[r]? = some (.map ms clock)) (hl : es.length = ms.size)
      (hc : clock = ms.size ∧ ∀ (i : Nat) (m : MapEntry), ms[i]? = some m → m.born = i)
      (h : ∀ (i : Nat) (x : V × V) (m : MapEntry), es[i]? = some x → ms[i]? = some m → Rep w e x.1 m.key ∧ Rep w e x.2 m.val) : RepBlk w e r (.map es clock)
  | loop (st : LoopState) (pend : Option Code) (fn : FuncId) (tmps : List V) (params : Array Tmp) (assign body : Code) (d : Nat) (us : Array Value)
      (hb : w.heap[r]? = some (.loop { state := st, pending := pend, fn, tmps := us, params, assign, body, defers := e.ρ d })) (hd : d < e.N)
      (hl : tmps.length = us.size) (h : ∀ (i : Nat) (v : V) (u : Value), tmps[i]? = some v → us[i]? = some u → Rep w e v u) :
      RepBlk w e r (.loop st pend tmps params assign body d)
  | defd (hb : w.heap[r]? = some (.deferred (some []))) : RepBlk w e r .defd
  | iter (m since stepped : Nat) (seen : List Nat) (hb : w.heap[r]? = some (.mapIter (some (e.ρ m)) since seen.toArray stepped)) (hd : m < e.N) : RepBlk w e r (.iter m since stepped seen)

abbrev Heap := List (Option Blk)

/-- The block number `id` is there. -/
def live (H : Heap) (id : Nat) : Prop := ∃ b, H[id]? = some (some b)

structure RHeap (G : Nat → Option (List V)) (H : Heap) (w : World) (e : Env) : Prop where
  len : e.N = H.length
  blk : ∀ id b, H[id]? = some (some b) → RepBlk w e (e.ρ id) b
  inj : ∀ i j, live H i → live H j → e.ρ i = e.ρ j → i = j
  ro : ∀ b o, e.RO b o → (cel w b o).isSome
  roOwn : ∀ id o, live H id → ¬ e.RO (e.ρ id) o
  sp : ∀ c b o, e.Sp c b o → (cel w b o).isSome ∧ fro w b o = false ∧ ¬ e.RO b o ∧ ∀ id, live H id → e.ρ id ≠ b
  spd : ∀ c c' b o, e.Sp c b o → e.Sp c' b o → c = c'
  glob : ∀ g cs, G g = some cs → Rep w e (.rp cs) (.pointer (some ⟨g, 0, none⟩))

/-- From (H, w, e) to (H', w', e'): only what is owned, and spare places, have been written. -/
structure Ext (H : Heap) (w : World) (e : Env) (H' : Heap) (w' : World) (e' : Env) : Prop where
  os : w'.os = w.os
  tape : w'.tape = w.tape
  output : w'.output = w.output
  size : w.heap.size ≤ w'.heap.size
  len : H.length ≤ H'.length
  ρ : ∀ id, id < H.length → e'.ρ id = e.ρ id
  new : ∀ id, H.length ≤ id → live H' id → w.heap.size ≤ e'.ρ id
  old : ∀ id, id < H.length → live H' id → live H id
  ro : ∀ b o, e.RO b o → e'.RO b o
  roNew : ∀ b o, e'.RO b o → e.RO b o ∨ w.heap.size ≤ b ∨ (∃ c, e.Sp c b o) ∨ ∃ id, live H id ∧ e.ρ id = b
  spNew : ∀ c b o, e'.Sp c b o → w.heap.size ≤ b ∨ ∃ c', e.Sp c' b o
  cell : ∀ b o, b < w.heap.size → (∀ id, live H id → e.ρ id ≠ b) → (∀ c, ¬ e.Sp c b o) → cel w' b o = cel w b o ∧ fro w' b o = fro w b o
  block : ∀ b, b < w.heap.size → (∀ id, live H id → e.ρ id ≠ b) → (∀ c o, ¬ e.Sp c b o) → w'.heap[b]? = w.heap[b]?

theorem Ext.refl (H : Heap) (w : World) (e : Env) : Ext H w e H w e where
  os := rfl
  tape := rfl
  output := rfl
  size := Nat.le_refl _
  len := Nat.le_refl _
  ρ := fun _ _ => rfl
  new := fun id h ⟨b, hb⟩ => by
    have := (List.getElem?_eq_some_iff.1 hb).1
    omega
  old := fun _ _ h => h
  ro := fun _ _ h => h
  roNew := fun _ _ h => .inl h
  spNew := fun c _ _ h => .inr ⟨c, h⟩
  cell := fun _ _ _ _ _ => ⟨rfl, rfl⟩
  block := fun _ _ _ _ => rfl

theorem Ext.trans {H H1 H2 : Heap} {w w1 w2 : World} {e e1 e2 : Env} (h : Ext H w e H1 w1 e1) (k : Ext H1 w1 e1 H2 w2 e2) : Ext H w e H2 w2 e2 := by
  have own : ∀ b, b < w.heap.size → (∀ id, live H id → e.ρ id ≠ b) → ∀ id, live H1 id → e1.ρ id ≠ b := by
    intro b hb ho id hl
    by_cases hid : id < H.length
    · rw [h.ρ id hid]; exact ho id (h.old id hid hl)
    · have := h.new id (by omega) hl; omega
  have spare : ∀ b o, b < w.heap.size → (∀ c, ¬ e.Sp c b o) → ∀ c, ¬ e1.Sp c b o := by
    intro b o hb hs c hc
    rcases h.spNew c b o hc with h1 | ⟨c', h1⟩
    · omega
    · exact hs c' h1
  refine ⟨k.os.trans h.os, k.tape.trans h.tape, k.output.trans h.output, Nat.le_trans h.size k.size, Nat.le_trans h.len k.len, ?_, ?_, ?_, ?_, ?_, ?_, ?_, ?_⟩
  · intro id hid
    rw [k.ρ id (by have := h.len; omega), h.ρ id hid]
  · intro id hid hl
    by_cases h1 : id < H1.length
    · rw [k.ρ id h1]; exact h.new id hid (k.old id h1 hl)
    · have := k.new id (by omega) hl; have := h.size; omega
  · intro id hid hl
    exact h.old id hid (k.old id (by have := h.len; omega) hl)
  · exact fun b o hr => k.ro b o (h.ro b o hr)
  · intro b o hr
    rcases k.roNew b o hr with h1 | h1 | ⟨c, h1⟩ | ⟨id, h1, h2⟩
    · exact h.roNew b o h1
    · have := h.size; exact .inr (.inl (by omega))
    · rcases h.spNew c b o h1 with h2 | h2
      · exact .inr (.inl h2)
      · exact .inr (.inr (.inl h2))
    · by_cases hid : id < H.length
      · exact .inr (.inr (.inr ⟨id, h.old id hid h1, by rw [← h.ρ id hid]; exact h2⟩))
      · have := h.new id (by omega) h1; exact .inr (.inl (by omega))
  · intro c b o hs
    rcases k.spNew c b o hs with h1 | ⟨c', h1⟩
    · have := h.size; exact .inl (by omega)
    · exact h.spNew c' b o h1
  · intro b o hb ho hs
    have h1 := h.cell b o hb ho hs
    have h2 := k.cell b o (by have := h.size; omega) (own b hb ho) (spare b o hb hs)
    exact ⟨h2.1.trans h1.1, h2.2.trans h1.2⟩
  · intro b hb ho hs
    exact (k.block b (by have := h.size; omega) (own b hb ho) (fun c o => spare b o hb (fun c => hs c o) c)).trans (h.block b hb ho hs)

/-! ### Values stay what they are -/

theorem lt_of_cel {w : World} {b o : Nat} (h : (cel w b o).isSome) : b < w.heap.size := by
  unfold cel World.cell? at h
  by_cases hb : b < w.heap.size
  · exact hb
  · simp [Array.getElem?_eq_none (by omega : w.heap.size ≤ b)] at h

theorem Ext.roCell {G : Nat → Option (List V)} {H H' : Heap} {w w' : World} {e e' : Env} (hR : RHeap G H w e) (h : Ext H w e H' w' e') {b o : Nat} (hro : e.RO b o) : cel w' b o = cel w b o :=
  (h.cell b o (lt_of_cel (hR.ro b o hro)) (fun id hl he => hR.roOwn id o hl (he ▸ hro)) (fun c hc => (hR.sp c b o hc).2.2.1 hro)).1

theorem Rep.mono' {w w' : World} {e e' : Env} (hN : e.N ≤ e'.N) (hρ : ∀ id, id < e.N → e'.ρ id = e.ρ id)
    (hro : ∀ b o, e.RO b o → e'.RO b o ∧ cel w' b o = cel w b o) {v : V} {u : Value} (h : Rep w e v u) : Rep w' e' v u := by
  induction h generalizing e' with
  | im v => exact .im v
  | str l => exact .str l
  | ptr id off hid => rw [← hρ id hid]; exact .ptr id off (by omega)
  | rp cs b o u h1 h2 ih =>
    exact .rp cs b o u (fun j v hj => ⟨(hro _ _ (h1 j v hj).2).2.trans (h1 j v hj).1, (hro _ _ (h1 j v hj).2).1⟩)
      (fun j v hj => ih j v hj (Nat.le_refl _) (fun _ h => absurd h (Nat.not_lt_zero _)) hro)
  | nil es fl => exact .nil es fl
  | nul es fl a => exact .nul es fl a
  | dat es rows fl b o cap u hes hcap ht h1 h2 ih =>
    exact .dat es rows fl b o cap u hes hcap ht (fun i j v hj => ⟨(hro _ _ (h1 i j v hj).2).2.trans (h1 i j v hj).1, (hro _ _ (h1 i j v hj).2).1⟩)
      (fun i j v hj => ih i j v hj (Nat.le_refl _) (fun _ h => absurd h (Nat.not_lt_zero _)) hro)
  | arr id es len cap hid h => rw [← hρ id hid]; exact .arr id es len cap (by omega) h
  | sub id es off len cap o hid h ho => rw [← hρ id hid]; exact .sub id es off len cap o (by omega) h ho
  | fn f first caps first' caps' hl1 hl2 h1 h2 ih1 ih2 => exact .fn f first caps first' caps' hl1 hl2 (fun i v u hv hu => ih1 i v u hv hu hN hρ hro) (fun i v u hv hu => ih2 i v u hv hu hN hρ hro)
  | mp id hid => rw [← hρ id hid]; exact .mp id (by omega)
  | yld id hid => rw [← hρ id hid]; exact .yld id (by omega)
  | agg cs us hl h ih => exact .agg cs us hl fun i v u hv hu => ih i v u hv hu hN hρ hro
  | tup cs us hl h ih => exact .tup cs us hl fun i v u hv hu => ih i v u hv hu hN hρ hro
  | bad v => exact .bad v

/-- What lies in read-only memory may be held. -/
theorem Rep.held {w : World} {e : Env} {v : V} {u : Value} (h : Rep w e.pure v u) : Rep w e v u :=
  h.mono' (e := e.pure) (e' := e) (Nat.zero_le _) (fun _ h => absurd h (Nat.not_lt_zero _)) fun _ _ h => ⟨h, rfl⟩

theorem Rep.ext {G : Nat → Option (List V)} {H H' : Heap} {w w' : World} {e e' : Env} (hR : RHeap G H w e) (hR' : RHeap G H' w' e') (hx : Ext H w e H' w' e')
    {v : V} {u : Value} (h : Rep w e v u) : Rep w' e' v u :=
  h.mono' (by rw [hR.len, hR'.len]; exact hx.len) (fun id hid => hx.ρ id (by rw [← hR.len]; exact hid)) (fun b o hr => ⟨hx.ro b o hr, hx.roCell hR hr⟩)

theorem FlagOk.mono {e e' : Env} {v : V} {u : Value} (hsp : ∀ es rows c, v = .dat es rows (.cls c) → ∀ b o, e.Sp c b o → e'.Sp c b o) (h : FlagOk e v u) : FlagOk e' v u := by
  unfold FlagOk at *
  split
  · rename_i es rows c a n cap
    exact ⟨h.1, fun k h1 h2 => hsp es rows c rfl _ _ (h.2 k h1 h2)⟩
  · trivial

end Go.Abs

/-! Ev -/
/- The generator of verification conditions over abstract states. -/
namespace Go.Abs
open Go.RowKit

structure St where
  tmps : List V
  H : Heap
  defs : List Nat := []
  cur : Option Nat := none

/-- The spare places of some classes are given up. -/
def V.demote (p : Nat → Bool) : V → V
  | .dat es rows (.cls c) => if p c then .dat es rows .no else .dat es rows (.cls c)
  | v => v

/-- Nothing is known of the spare places, but that there are none. -/
def V.strip : V → V
  | .dat es rows (.cls _) => .dat es rows .no
  | v => v

def Blk.demote (p : Nat → Bool) : Blk → Blk
  | .cells t vs => .cells t (vs.map (V.demote p))
  | b => b

def demoteH (p : Nat → Bool) (H : Heap) : Heap := H.map (Option.map (Blk.demote p))

/-- Of a constant. -/
def absV : Value → V
  | .string s => .str s.data.toList
  | .slice none 0 0 => .dat 0 [] .tight
  | v => .im v

def St.ev (σ : St) : Operand → V
  | .tmp t => σ.tmps.getD t .bad
  | .const v => absV v
  | .global g => .im (.pointer (some ⟨g, 0, none⟩))
  | .func f => .fn (.func f) [] []

/-- The cells of a value that is laid into a block. -/
def V.cellsF : V → Option (List V)
  | .agg cs => some (cs.map V.strip)
  | .bad | .tup _ | .im (.agg _) | .im (.tuple _) => none
  | v => some [v]

/-- Is it a value of one cell? -/
def V.solid : V → Bool
  | .bad | .agg _ | .tup _ | .im (.agg _) | .im (.tuple _) => false
  | _ => true

/-- May it lie in read-only memory? -/
def V.dataCell : V → Bool
  | .im _ | .str _ | .dat .. => true
  | _ => false

/-! ### types -/
/-- Is it a struct or an array? How many cells? -/
def tk (P : Program) (t : TypeId) : Option (Bool × Nat) :=
  match P.underlying t, P.info? t with
  | some (.struct _), some i | some (.array ..), some i => some (true, i.size)
  | some _, some i => some (false, i.size)
  | _, _ => none
def aggT (P : Program) (t : TypeId) : Bool := match P.underlying t with | some (.struct _) | some (.array ..) => true | _ => false
/-- A struct's fields: place, type. -/
def fieldOf (P : Program) (t : TypeId) (i : Nat) : Option (Nat × TypeId) :=
  match P.underlying t with
  | some (.struct fs) => (fs[i]?).map fun f => (f.offset, f.type)
  | _ => none
/-- An array's length, its element's type and size. -/
def arrOf (P : Program) (t : TypeId) : Option (Nat × TypeId × Nat) :=
  match P.underlying t with
  | some (.array n e) => (P.info? e).map fun i => (n, e, i.size)
  | _ => none
/-- A slice's element: type, size, bytes. -/
def slOf (P : Program) (t : TypeId) : Option (TypeId × Nat × Nat) :=
  match P.underlying t with
  | some (.slice e) => (P.info? e).map fun i => (e, i.size, i.bytes)
  | _ => none
/-- A type's zero cells. -/
def zeroOf (P : Program) (t : TypeId) : Option (List V) :=
  match (P.info? t).bind (·.zero) with
  | some (.agg us) => some (us.toList.map absV)
  | some v => some [absV v]
  | none => none
/-- Where the parts of a struct or an array lie: place, size. -/
def placesOf (P : Program) (t : TypeId) : Option (Nat → Option (Nat × Nat)) :=
  match P.underlying t with
  | some (.struct fs) => (fs.toList.mapM fun f => (P.info? f.type).map fun j => (f.offset, j.size)).map fun l i => l[i]?
  | some (.array _ e) => (P.info? e).map fun j i => some (i * j.size, j.size)
  | _ => none

/-! ### what the operations come to -/

def evLoadCells (P : Program) (t : TypeId) (vs : List V) (k : V → Prop) : Prop :=
  match tk P t with
  | some (true, n) => n ≤ vs.length ∧ k (.agg (vs.take n))
  | some (false, _) => match vs with
    | v :: _ => k v
    | [] => False
  | none => False

def evLoad (P : Program) (t : TypeId) (σ : St) (k : V → Prop) : V → Prop
  | .ptr id off => match σ.H[id]? with
    | some (some (.cells _ vs)) => evLoadCells P t (vs.drop off) k
    | _ => False
  | .rp cs => evLoadCells P t cs (fun v => k v.strip)
  | _ => False

def setRange (vs : List V) (off : Nat) (cs : List V) : List V := vs.take off ++ cs ++ vs.drop (off + cs.length)

def evStore (P : Program) (t : TypeId) (σ : St) (x : V) (k : St → Prop) : V → Prop
  | .ptr id off => match σ.H[id]? with
    | some (some (.cells e vs)) => match x.cellsF, tk P t with
      | some cs, some (_, n) => cs.length = n ∧ off + n ≤ vs.length ∧ cs.all V.solid = true ∧ k { σ with H := σ.H.set id (some (.cells e (setRange vs off cs))) }
      | _, _ => False
    | _ => False
  | _ => False

def fillV (place : Nat → Option (Nat × Nat)) (cells : List V) : List (Nat × V) → Option (List V)
  | [] => some cells
  | (i, v) :: rest =>
    match place i, v.cellsF with
    | some (off, size), some cs => if cs.length = size ∧ off + size ≤ cells.length then fillV place (setRange cells off cs) rest else none
    | _, _ => none

def evBuild (P : Program) (t : TypeId) (parts : List (Nat × V)) (k : V → Prop) : Prop :=
  match placesOf P t, zeroOf P t with
    | some pl, some z => match fillV pl z parts with
      | some cs => k (.agg cs)
      | none => False
    | _, _ => False

/-- Rows of n cells each. -/
def chunks (n : Nat) : Nat → List V → List (List V)
  | 0, _ => []
  | m + 1, cs => cs.take n :: chunks n m (cs.drop n)

def evBuildSlice (P : Program) (t : TypeId) (len : Nat) (parts : List (Nat × V)) (k : V → Prop) : Prop :=
  match slOf P t with
  | some (e, n, _) => match zeroOf P e with
    | some z => z.length = n ∧ 1 ≤ n ∧ len * n ≤ 2 ^ 24 ∧
      match fillV (fun i => some (i * n, n)) (List.replicate len z).flatten parts with
      | some cs => cs.all V.dataCell = true ∧ k (.dat n (chunks n len cs) .tight)
      | none => False
    | none => False
  | none => False

/-- What a cell that is compared holds. -/
inductive CK where
  | b | i | s

/-- Cell by cell. -/
def cellEq : CK → V → V → Option Bool
  | .i, .im (.int k a), .im (.int k' b) => if k = k' then some (decide (a = b)) else none
  | .b, .im (.bool a), .im (.bool b) => some (a == b)
  | .s, .str a, .str b => some (decide (a = b))
  | _, _, _ => none
def cellsEq : List CK → List V → List V → Option Bool
  | [], [], [] => some true
  | k :: ks, x :: xs, y :: ys => match cellEq k x y, cellsEq ks xs ys with
    | some a, some b => some (a && b)
    | _, _ => none
  | _, _, _ => none

/-- May two values of the type be compared cell by cell? Which cells? -/
def flatEq (P : Program) : Nat → TypeId → Option (List CK)
  | 0, _ => none
  | d + 1, t => match P.underlying t with
    | some .bool => some [.b]
    | some (.int _) => some [.i]
    | some .string => some [.s]
    | some (.struct fs) => if P.stoodInHeld t then none else
        fs.toList.foldl (fun acc f => match acc, flatEq P d f.type with
          | some n, some m => if f.name ≠ "_" ∧ f.offset = n.length ∧ 1 ≤ m.length ∧ (P.info? f.type).map (·.size) = some m.length then some (n ++ m) else none
          | _, _ => none) (some [])
    | some (.array n e) => (flatEq P d e).bind fun m => if 1 ≤ m.length ∧ (P.info? e).map (·.size) = some m.length then some (List.replicate n m).flatten else none
    | _ => none

def bytesLess : List UInt8 → List UInt8 → Bool := Op.bytesLess

def evInt (op : BinOp) (k : IntKind) (a b : Int) (K : V → Prop) : Prop :=
  match op with
  | .add => K (.int k (k.wrap (a + b)))
  | .sub => K (.int k (k.wrap (a - b)))
  | .mul => K (.int k (k.wrap (a * b)))
  | .quo => b ≠ 0 ∧ K (.int k (k.wrap (a.tdiv b)))
  | .rem => b ≠ 0 ∧ K (.int k (a.tmod b))
  | .and => K (.int k (k.wrap (BitVec.ofInt k.bits a &&& BitVec.ofInt k.bits b).toNat))
  | .or => K (.int k (k.wrap (BitVec.ofInt k.bits a ||| BitVec.ofInt k.bits b).toNat))
  | .xor => K (.int k (k.wrap (BitVec.ofInt k.bits a ^^^ BitVec.ofInt k.bits b).toNat))
  | .andNot => K (.int k (k.wrap (BitVec.ofInt k.bits a &&& ~~~ BitVec.ofInt k.bits b).toNat))
  | .eql => K (.bool (decide (a = b)))
  | .neq => K (.bool (decide (a ≠ b)))
  | .lss => K (.bool (decide (a < b)))
  | .leq => K (.bool (decide (a ≤ b)))
  | .gtr => K (.bool (decide (b < a)))
  | .geq => K (.bool (decide (b ≤ a)))
  | _ => False

def evStr (op : BinOp) (a b : List UInt8) (K : V → Prop) : Prop :=
  match op with
  | .add => ((a.length + b.length : Nat) : Int) ≤ IntKind.i64.max ∧ K (.str (a ++ b))
  | .eql => K (.bool (decide (a = b)))
  | .neq => K (.bool (decide (a ≠ b)))
  | .lss => K (.bool (bytesLess a b))
  | .leq => K (.bool (bytesLess a b || decide (a = b)))
  | .gtr => K (.bool !(bytesLess a b || decide (a = b)))
  | .geq => K (.bool !bytesLess a b)
  | _ => False

def evBin (P : Program) (op : BinOp) (t : TypeId) (x y : V) (K : V → Prop) : Prop :=
  match x, y with
  | .im (.int k a), .im (.int k' b) =>
    match op with
    | .shl => 0 ≤ b ∧ K (.int k (k.wrap (a * 2 ^ min b.toNat k.bits)))
    | .shr => 0 ≤ b ∧ K (.int k (a.fdiv (2 ^ min b.toNat k.bits)))
    | _ => k = k' ∧ evInt op k a b K
  | .im (.bool a), .im (.bool b) => P.underlying t = some .bool ∧ match op with
    | .eql => K (.bool (a == b))
    | .neq => K (.bool (a != b))
    | _ => False
  | .str a, .str b => evStr op a b K
  | .agg xs, .agg ys => P.eqGuardType P.depth t = false ∧ match flatEq P 50 t with
    | some ks => aggT P t = true ∧ match op, cellsEq ks xs ys with
      | .eql, some b => K (.bool b)
      | .neq, some b => K (.bool !b)
      | _, _ => False
    | none => False
  | _, _ => False

def evUn (op : UnOp) (x : V) (K : V → Prop) : Prop :=
  match op, x with
  | .not, .im (.bool b) => K (.bool !b)
  | .neg, .im (.int k n) => K (.int k (k.wrap (0 - n)))
  | _, _ => False

def evField (P : Program) (t : TypeId) (f : Nat) (K : V → Prop) : V → Prop
  | .agg cs => match fieldOf P t f with
    | some (off, ft) => evLoadCells P ft (cs.drop off) (fun v => K v.strip)
    | none => False
  | _ => False

def evFieldAddr (P : Program) (t : TypeId) (f : Nat) (K : V → Prop) (x : V) : Prop :=
  match fieldOf P t f with
  | some (fo, ft) => match tk P ft with
    | some (_, n) => 1 ≤ n ∧ match x with
      | .ptr id off => K (.ptr id (off + fo))
      | .rp cs => K (.rp (cs.drop fo))
      | _ => False
    | none => False
  | none => False

def evIndex (P : Program) (t : TypeId) (x i : V) (K : V → Prop) : Prop :=
  match x, i with
  | .agg cs, .im (.int _ n) => match arrOf P t with
    | some (len, e, s) => 0 ≤ n ∧ n < len ∧ evLoadCells P e (cs.drop (n.toNat * s)) (fun v => K v.strip)
    | none => False
  | .str l, .im (.int _ n) => P.underlying t = some .string ∧ 0 ≤ n ∧ ∃ b, l[n.toNat]? = some b ∧ K (.int .u8 b.toNat)
  | _, _ => False

def evIndexAddr (P : Program) (t : TypeId) (x i : V) (K : V → Prop) : Prop :=
  match i with
  | .im (.int _ n) => match slOf P t, arrOf P t with
    | some (_, s, _), _ => match x with
      | .dat es rows _ => es = s ∧ 1 ≤ s ∧ 0 ≤ n ∧ ∃ r, rows[n.toNat]? = some r ∧ K (.rp r)
      | .arr id es len => es = s ∧ 0 ≤ n ∧ n < len ∧ K (.ptr id (n.toNat * s))
      | _ => False
    | none, some (len, _, s) => match x with
      | .ptr id off => 0 ≤ n ∧ n < len ∧ K (.ptr id (off + n.toNat * s))
      | .rp cs => 0 ≤ n ∧ n < len ∧ K (.rp (cs.drop (n.toNat * s)))
      | _ => False
    | _, _ => False
  | _ => False

/-- The rows of some bytes. -/
def byteRows (l : List UInt8) : List (List V) := l.map fun b => [V.int .u8 (b.toNat : Int)]

def evConvert (P : Program) (src dst : TypeId) (H : Heap) (x : V) (K : V → Prop) : Prop :=
  match P.underlying src, P.underlying dst, x with
  | some (.slice e), some .string, .arr id es len => match H[id]? with
    | some (some (.cells _ vs)) => P.underlying e = some (.int .u8) ∧ es = 1 ∧ ∃ l : List UInt8, (l.length = len ∧ vs.take len = l.map fun b => V.int .u8 (b.toNat : Int)) ∧ K (.str l)
    | _ => False
  | some _, some (.int k), .im (.int _ n) => K (.int k (k.wrap n))
  | some .string, some .string, .str l => K (.str l)
  | some (.slice e), some .string, .dat es rows _ => P.underlying e = some (.int .u8) ∧ (rows = [] ∨ es = 1) ∧ ∃ l, rows = byteRows l ∧ K (.str l)
  | _, _, _ => False

/-- A slice is held against nil. -/
def isNilC : Operand → Bool
  | .const (.slice none 0 0) => true
  | _ => false

def evNil (P : Program) (op : BinOp) (t : TypeId) (x : V) (K : V → Prop) : Prop :=
  (slOf P t).isSome = true ∧ match op with
  | .eql => match x with
    | .dat _ rows _ => ∀ b : Bool, (b = true → rows = []) → K (.bool b)
    | .arr .. => K (.bool false)
    | _ => False
  | .neq => match x with
    | .dat _ rows _ => ∀ b : Bool, (b = false → rows = []) → K (.bool b)
    | .arr .. => K (.bool true)
    | _ => False
  | _ => False

/-- A bound of a slice. -/
def bnd (d : Int) : Option V → Option Int
  | none => some d
  | some (.im (.int _ n)) => some n
  | _ => none

def evSlice (P : Program) (t : TypeId) (x : V) (lo hi : Option V) (K : V → Prop) : Prop :=
  match x with
  | .str l => match bnd 0 lo, bnd l.length hi with
    | some a, some b => P.underlying t = some .string ∧ (0 ≤ a ∧ a ≤ b ∧ b ≤ l.length) ∧ K (.str ((l.take b.toNat).drop a.toNat))
    | _, _ => False
  | .dat es rows _ => match slOf P t, bnd 0 lo, bnd rows.length hi with
    | some (_, s, _), some a, some b => ((rows = [] ∨ es = s) ∧ 0 ≤ a ∧ a ≤ b ∧ b ≤ rows.length) ∧ K (.dat s ((rows.take b.toNat).drop a.toNat) .no)
    | _, _, _ => False
  | .arr id es len => match slOf P t, bnd 0 lo, bnd len hi with
    | some (_, s, _), some a, some b => (es = s ∧ 0 ≤ a ∧ a ≤ b ∧ b ≤ len) ∧ match lo with
      | none => K (.arr id es b.toNat)
      | some _ => K (.sub id es (a.toNat * es) (b.toNat - a.toNat))
    | _, _, _ => False
  | .rp cs => match lo, hi, arrOf P t with
    | none, none, some (n, _, s) => 1 ≤ s ∧ n * s ≤ cs.length ∧ K (.dat s (chunks s n cs) .no)
    | _, _, _ => False
  | _ => False

/-- s[a:b:b]: no spare places. -/
def evSlice3 (P : Program) (t : TypeId) (x : V) (lo hi : Option V) (mx : V) (K : V → Prop) : Prop :=
  match x with
  | .dat es rows _ => match slOf P t, bnd 0 lo, hi, mx with
    | some (_, s, _), some a, some (.im (.int _ b)), .im (.int _ c) => ((rows = [] ∨ es = s) ∧ 0 ≤ a ∧ a ≤ b ∧ c = b ∧ b ≤ rows.length) ∧ K (.dat s ((rows.take b.toNat).drop a.toNat) .tight)
    | _, _, _, _ => False
  | _ => False

def evLen (P : Program) (t : TypeId) (x : V) (K : V → Prop) : Prop :=
  match x with
  | .str l => P.underlying t = some .string ∧ K (.int .i64 l.length)
  | .dat _ rows _ => (slOf P t).isSome = true ∧ K (.int .i64 rows.length)
  | .arr _ _ len => (slOf P t).isSome = true ∧ K (.int .i64 len)
  | _ => False

/-- Which classes occur in the owned blocks. -/
def V.hasCls (c : Nat) : V → Bool
  | .dat _ _ (.cls c') => c == c'
  | _ => false
def Blk.hasCls (c : Nat) : Blk → Bool
  | .cells _ vs => vs.any (V.hasCls c)
  | _ => false
def heapCls (H : Heap) (c : Nat) : Bool := H.any fun b => match b with | some b => b.hasCls c | none => false

/-- The condition of a call. -/
def StCall (P : Program) (G : Nat → Option (List V)) (f : FuncId) (args : List V) (H : Heap) (Ψ : V → Heap → Prop) : Prop :=
  ∀ w e us, RHeap G H w e → Reps w e args us → CallsIn Fence.wide 0 P f us.toArray w fun en w' =>
    ∃ v r H' e', en = .returned v ∧ Ψ r H' ∧ RHeap G H' w' e' ∧ RepF w' e' r v ∧ Ext H w e H' w' e'

def maxBytes : Nat := 2 ^ 47

def notInt (P : Program) (t : TypeId) : Bool := match P.underlying t with | some (.slice _) => true | _ => false

/-- append(x, ys) where the second is a slice of rows. -/
def evAppend (P : Program) (t t' : TypeId) (d : Nat) (x y : V) (σ : St) (k : V → St → Prop) : Prop :=
  match slOf P t with
  | some (el, s, bytes) => match x, y with
    | .dat es rows fl, .dat es' ys fl' =>
      notInt P t' = true ∧ 1 ≤ s ∧ ((zeroOf P el).map List.length) = some s ∧ AppOk rows es s fl ∧ (ys = [] ∨ es' = s) ∧ (∀ r ∈ ys, r.all V.solid = true) ∧
      (rows.length + ys.length) * bytes ≤ maxBytes ∧ rows.length + ys.length ≤ maxBytes ∧
      match fl with
      | .no => False
      | .tight => match fl' with
        | .tight => k (.dat s (rows ++ ys) (.cls d)) σ
        | _ => k (.dat s (rows ++ ys) (.cls d)) σ ∨ ((rows = [] ∧ ys ≠ [] ∧ ∀ r ∈ ys, ∀ v ∈ r, v.strip = v) ∧ k (.arr σ.H.length s ys.length) { σ with H := σ.H ++ [some (.cells el ys.flatten)] })
      | .cls c => k (.dat s (rows ++ ys) (.cls c)) { σ with tmps := σ.tmps.map (V.demote (· == c)), H := demoteH (· == c) σ.H }
    | _, _ => False
  | none => False

/-- make of a slice. -/
def evMake (P : Program) (t : TypeId) (n c : V) (H : Heap) (k : V → Heap → Prop) : Prop :=
  match slOf P t, n, c with
  | some (e, s, bytes), .im (.int _ a), .im (.int _ b) => match zeroOf P e with
    | some z => z.length = s ∧ 1 ≤ s ∧ (b = a ∧ 0 ≤ a ∧ a ≤ maxBytes ∧ bytes * a ≤ maxBytes) ∧ k (.arr H.length s a.toNat) (H ++ [some (.cells e (List.replicate a.toNat z).flatten)])
    | none => False
  | _, _, _ => False

/-- clear of the end of a row of one's own. -/
def evClear (P : Program) (t : TypeId) (x : V) (H : Heap) (k : Heap → Prop) : Prop :=
  match x with
  | .sub id es off len => match slOf P t, H[id]? with
    | some (el, s, _), some (some (.cells bt vs)) => match zeroOf P el with
      | some z => (es = s ∧ z.length = s ∧ 1 ≤ s ∧ off + len * s ≤ vs.length ∧ z.all V.solid = true) ∧ k (H.set id (some (.cells bt (setRange vs off (List.replicate len z).flatten))))
      | none => False
    | _, _ => False
  | _ => False

def evBuiltin (P : Program) (b : Builtin) (argTypes : List TypeId) (dst : Option Tmp) (args : List V) (σ : St) (k : V → St → Prop) : Prop :=
  match b, args with
  | .len, [x] => match argTypes with
    | [t] => evLen P t x fun v => k v σ
    | _ => False
  | .append, [x, y] => match argTypes with
    | [t, t'] => evAppend P t t' (dst.getD 0) x y σ k
    | _ => False
  | .min, [.im (.int kd a), .im (.int kd' b)] => kd = kd' ∧ k (.int kd (if b < a then b else a)) σ
  | .max, [.im (.int kd a), .im (.int kd' b)] => kd = kd' ∧ k (.int kd (if b > a then b else a)) σ
  | .clear, [x] => match argTypes with
    | [t] => evClear P t x σ.H fun H => k (.tup []) { σ with H := H }
    | _ => False
  | _, _ => False

/-- A call of yield: a round. -/
def StYield (P : Program) (G : Nat → Option (List V)) (id : Nat) (args : List V) (H : Heap) (Ψ : V → Heap → Prop) : Prop :=
  ∀ w e us, RHeap G H w e → Reps w e args us → ∃ r w1 l f tmps assign body, (Instr.yield (e.ρ id) us.toArray).run P w = r ∧ r = .ok (.round l f tmps assign body) w1 ∧ w1 = w ∧
    RoundIn Fence.wide 0 P l f tmps assign body w fun en w' =>
      ∃ v r H' e', en = .returned v ∧ Ψ r H' ∧ RHeap G H' w' e' ∧ RepF w' e' r v ∧ Ext H w e H' w' e'

def St.afterCall (σ : St) (H' : Heap) : St := { σ with tmps := σ.tmps.map (V.demote (heapCls σ.H)), H := H' }

/-- Are two keys the same? -/
def keyEq : V → V → Option Bool
  | .im (.int k a), .im (.int k' b) => if k = k' then some (decide (a = b)) else none
  | .im (.bool a), .im (.bool b) => some (a == b)
  | .str a, .str b => some (decide (a = b))
  | .agg [.im (.int k a), .im (.int l b)], .agg [.im (.int k' a'), .im (.int l' b')] => if k = k' ∧ l = l' then some (decide (a = a') && decide (b = b')) else none
  | _, _ => none

/-- A type of one number of that kind. -/
def isIntOf (P : Program) (el : TypeId) (q : IntKind) : Bool :=
  match P.underlying el, P.info? el with
  | some (.int q'), some i => decide (q' = q) && Nat.beq i.size 1
  | _, _ => false

/-- May a map have such a key? -/
def keyTy (P : Program) (kt : TypeId) (k : V) : Bool :=
  match P.underlying kt, k with
  | some (.int q), .im (.int q' _) => decide (q' = q)
  | some .bool, .im (.bool _) => true
  | some .string, .str _ => true
  | some (.array 2 el), .agg [.im (.int q a), .im (.int q' b)] => isIntOf P el q && decide (q' = q)
  | _, _ => false

/-- A key is looked for. -/
def evFind (k : V) (K : Option (Nat × V) → Prop) : List (V × V) → Nat → Prop
  | [], _ => K none
  | e :: es, i => match keyEq k e.1 with
    | some b => (b = true → K (some (i, e.2))) ∧ (b = false → evFind k K es (i + 1))
    | none => False

def mapOf (P : Program) (t : TypeId) : Option (TypeId × TypeId) :=
  match P.underlying t with
  | some (.map k e) => some (k, e)
  | _ => none

def zero1 (P : Program) (t : TypeId) : Option V :=
  match (P.info? t).bind (·.zero) with
  | some (.agg _) => none
  | some v => some (absV v)
  | none => none

def evInsert (P : Program) (t : TypeId) (key x : V) (σ : St) (K : St → Prop) : V → Prop
  | .mp id => match σ.H[id]?, mapOf P t with
    | some (some (.map es c)), some (kt, _) => keyTy P kt key = true ∧ evFind key (fun r => match r with
      | none => K { σ with H := σ.H.set id (some (.map (es ++ [(key, x)]) (c + 1))) }
      | some (i, _) => K { σ with H := σ.H.set id (some (.map (es.set i (key, x)) c)) }) es 0
    | _, _ => False
  | _ => False

def evLookup (P : Program) (t : TypeId) (key : V) (ok : Bool) (σ : St) (K : V → Prop) : V → Prop
  | .mp id => match σ.H[id]?, mapOf P t with
    | some (some (.map es _)), some (kt, et) => match zero1 P et with
      | some z => keyTy P kt key = true ∧ evFind key (fun r => match ok with
        | true => match r with
          | none => K (.tup [z, .bool false])
          | some (_, v) => K (.tup [v, .bool true])
        | false => match r with
          | none => K z.strip
          | some (_, v) => K v.strip) es 0
      | none => False
    | _, _ => False
  | _ => False

def evRange (P : Program) (t : TypeId) (σ : St) (k : V → St → Prop) : V → Prop
  | .mp id => match σ.H[id]?, mapOf P t with
    | some (some (.map _ c)), some _ => k (.ptr σ.H.length 0) { σ with H := σ.H ++ [some (.iter id c c [])] }
    | _, _ => False
  | _ => False

def evNext (σ : St) (k : V → St → Prop) : V → Prop
  | .ptr id 0 => match σ.H[id]? with
    | some (some (.iter m since stepped seen)) => match σ.H[m]? with
      | some (some (.map es c)) => (Nat.ble c since && Nat.ble since stepped) = true ∧
        ((∀ (i : Nat), i < es.length → i ∈ seen) → k (.tup [.bool false]) σ) ∧
        (∀ (i : Nat) (x : V × V), es[i]? = some x → ¬ i ∈ seen → k (.tup [.bool true, x.1, x.2]) { σ with H := σ.H.set id (some (.iter m since c (seen ++ [i]))) })
      | _ => False
    | _ => False
  | _ => False

def evEntry (σ : St) (k : V → Prop) : V → Prop
  | .ptr id 0 => match σ.H[id]? with
    | some (some (.iter m _ stepped seen)) => match σ.H[m]?, seen.getLast? with
      | some (some (.map es c)), some i => Nat.beq c stepped = true ∧ match es[i]? with
        | some x => k (.tup [x.1, x.2])
        | none => False
      | _, _ => False
    | _ => False
  | _ => False

/-- The place of a package's variable of which the cells are known. -/
def asRp (G : Nat → Option (List V)) (v : V) : V :=
  match v with
  | .im (.pointer (some ⟨g, 0, none⟩)) => match G g with
    | some cs => .rp cs
    | none => v
  | v => v

theorem asRp_repF {G : Nat → Option (List V)} {H : Heap} {w : World} {e : Env} (hR : RHeap G H w e) {v : V} {u : Value} (h : RepF w e v u) : RepF w e (asRp G v) u := by
  unfold asRp
  split
  · rename_i g
    split
    · rename_i cs hg
      have hu : u = .pointer (some ⟨g, 0, none⟩) := by
        cases h.1 with
        | im => rfl
      subst hu
      exact ⟨hR.glob g cs hg, trivial⟩
    · exact h
  · exact h

def evOp (P : Program) (G : Nat → Option (List V)) (o : Oper) (σ : St) (k : V → St → Prop) : Prop :=
  match o.op with
  | .move x | .assign x => k (σ.ev x) σ
  | .alloc t => match zeroOf P t with
    | some cs => k (.ptr σ.H.length 0) { σ with H := σ.H ++ [some (.cells t cs)] }
    | none => False
  | .box t x => match (σ.ev x).cellsF with
    | some cs => k (.ptr σ.H.length 0) { σ with H := σ.H ++ [some (.cells t cs)] }
    | none => False
  | .build t parts => evBuild P t (parts.toList.map fun (i, x) => (i, σ.ev x)) fun v => k v σ
  | .buildSlice t len parts => evBuildSlice P t len (parts.toList.map fun (i, x) => (i, σ.ev x)) fun v => k v σ
  | .load t a => evLoad P t σ (fun v => k v σ) (asRp G (σ.ev a))
  | .store t a x => evStore P t σ (σ.ev x) (fun σ' => k (.tup []) σ') (σ.ev a)
  | .nilCheck x => match σ.ev x with
    | .ptr id off => k (.ptr id off) σ
    | .rp cs => k (.rp cs) σ
    | .fn (.func f) a b => k (.fn (.func f) a b) σ
    | .yld id => k (.yld id) σ
    | _ => False
  | .binOp op t x y _ => match isNilC y with
    | true => evNil P op t (σ.ev x) fun v => k v σ
    | false => evBin P op t (σ.ev x) (σ.ev y) fun v => k v σ
  | .slice t x lo hi none => evSlice P t (asRp G (σ.ev x)) (lo.map σ.ev) (hi.map σ.ev) fun v => k v σ
  | .slice t x lo hi (some mx) => evSlice3 P t (asRp G (σ.ev x)) (lo.map σ.ev) (hi.map σ.ev) (σ.ev mx) fun v => k v σ
  | .makeSlice t n c => evMake P t (σ.ev n) (σ.ev c) σ.H fun v H => k v { σ with H := H }
  | .unOp op _ x => evUn op (σ.ev x) fun v => k v σ
  | .convert src dst x => evConvert P src dst σ.H (σ.ev x) fun v => k v σ
  | .makeFunc fn a b => k (.fn fn (a.toList.map σ.ev) (b.toList.map σ.ev)) σ
  | .fieldAddr t x f => evFieldAddr P t f (fun v => k v σ) (asRp G (σ.ev x))
  | .field t x f => evField P t f (fun v => k v σ) (σ.ev x)
  | .index t x i => evIndex P t (σ.ev x) (σ.ev i) fun v => k v σ
  | .indexAddr t x i => evIndexAddr P t (asRp G (σ.ev x)) (σ.ev i) fun v => k v σ
  | .pick c x y => match σ.ev c with
    | .im (.bool t) => (t = true → k (σ.ev x) σ) ∧ (t = false → k (σ.ev y) σ)
    | _ => False
  | .extract x i => match σ.ev x with
    | .tup vs => match vs[i]? with
      | some v => k v.strip σ
      | none => False
    | _ => False
  | .makeMap _ none => k (.mp σ.H.length) { σ with H := σ.H ++ [some (.map [] 0)] }
  | .mapUpdate t m x y | .insert t m x y => evInsert P t (σ.ev x) (σ.ev y) σ (fun σ' => k (.tup []) σ') (σ.ev m)
  | .lookup t x i ok => evLookup P t (σ.ev i) ok σ (fun v => k v σ) (σ.ev x)
  | .range t x => evRange P t σ k (σ.ev x)
  | .next x false => evNext σ k (σ.ev x)
  | .entry x => evEntry σ (fun v => k v σ) (σ.ev x)
  | .call c => match c.callee with
    | .builtin b => evBuiltin P b c.argTypes.toList o.dst (c.args.toList.map σ.ev) σ k
    | .value f => match σ.ev f with
      | .fn (.func g) a b => (∃ fn, P.funcs[g]? = some fn ∧ fn.body.isSome ∧ (fn.name == "runtime.NumGoroutine") = false) ∧
          StCall P G g ((a ++ (c.args.toList.map σ.ev) ++ b).map V.strip) σ.H fun r H' => k r (σ.afterCall H')
      | .yld id => StYield P G id ((c.args.toList.map σ.ev).map V.strip) σ.H fun r H' => k r (σ.afterCall H')
      | _ => False
    | _ => False
  | _ => False

/-- The temporary gets its value. -/
def St.put (σ : St) (d : Option Tmp) (v : V) : St :=
  match d with
  | some d => { σ with tmps := σ.tmps.set d v }
  | none => σ

def yieldedV (ops : List Oper) (σ : St) (j : Nat) : Option V :=
  match (ops[j]?).bind (·.dst) with
  | some d => σ.tmps[d]?
  | none => none

def evOps (P : Program) (G : Nat → Option (List V)) (all : List Oper) : List Oper → St → (St → Prop) → Prop
  | [], σ, k => k σ
  | o :: rest, σ, k =>
    match o.guard with
    | none => evOp P G o σ fun v σ' => evOps P G all rest (σ'.put o.dst v) k
    | some (j, want) => match yieldedV all σ j with
      | some (.im (.bool b)) => (b = want → evOp P G o σ fun v σ' => evOps P G all rest (σ'.put o.dst v) k) ∧
          (b ≠ want → evOps P G all rest (σ.put o.dst (.tup [])) k)
      | some (.tup []) => evOps P G all rest (σ.put o.dst (.tup [])) k
      | _ => False

def FW (ro : Option Nat) : Fence := { Fence.wide with round := ro }

structure RSt (G : Nat → Option (List V)) (σ : St) (a : Act) (w : World) (e : Env) : Prop where
  heap : RHeap G σ.H w e
  tmps : Reps w e σ.tmps a.tmps.toList
  defs : a.defers = σ.defs.map fun id => { target := .collected (e.ρ id), args := #[] }
  defsN : ∀ id ∈ σ.defs, id < e.N
  cur : ∀ id, σ.cur = some id → id < e.N

/-- The condition of a piece of code. -/
def WPc (P : Program) (G : Nat → Option (List V)) (c : Code) (Φ : Exit → St → Prop) (σ : St) : Prop :=
  ∀ a w e, RSt G σ a w e → c.wpIn (FW (σ.cur.map e.ρ)) 0 P (fun x a' w' => ∃ σ' e', Φ x σ' ∧ σ'.cur = σ.cur ∧ RSt G σ' a' w' e' ∧ Ext σ.H w e σ'.H w' e') a w

def evCode (P : Program) (G : Nat → Option (List V)) : Code → (Exit → St → Prop) → St → Prop
  | .skip, Φ, σ => Φ .normal σ
  | .region id ops d, Φ, σ => match d with
    | false => evOps P G ops.toList ops.toList σ (Φ .normal)
    | true => WPc P G (.region id ops true) Φ σ
  | .seq a b, Φ, σ => evCode P G a (fun x σ' => match x with
    | .normal => evCode P G b Φ σ'
    | x => Φ x σ') σ
  | .cond c a b, Φ, σ => match σ.ev c with
    | .im (.bool t) => (t = true → evCode P G a Φ σ) ∧ (t = false → evCode P G b Φ σ)
    | _ => False
  | .block id c, Φ, σ => evCode P G c (fun x σ' => match x with
    | .exit i => if i = id then Φ .normal σ' else Φ (.exit i) σ'
    | x => Φ x σ') σ
  | .loop c, Φ, σ => WPc P G (.loop c) Φ σ
  | .rangeFunc f ps a c, Φ, σ => WPc P G (.rangeFunc f ps a c) Φ σ
  | .exit id, Φ, σ => Φ (.exit id) σ
  | .scope c, Φ, σ => WPc P G (.scope c) Φ σ
  | .label _, Φ, σ => Φ .normal σ
  | .goto l, Φ, σ => Φ (.goto l) σ
  | .ret, Φ, σ => Φ .ret σ
  | .refuse _, _, _ => False

end Go.Abs

/-! Sound1 -/
/- The operations that neither call nor append: what the generator says of them is so. -/
namespace Go.Abs
open Go.RowKit

variable {P : Program} {G : Nat → Option (List V)}

theorem rep_absV (w : World) (e : Env) (v : Value) : RepF w e (absV v) v := by
  unfold absV
  split
  · exact ⟨.str _, trivial⟩
  · exact ⟨.nil _ _, trivial⟩
  · exact ⟨.im _, trivial⟩

theorem RepF.bad (w : World) (e : Env) (u : Value) : RepF w e .bad u := ⟨Rep.bad u, trivial⟩

theorem RSt.ev {σ : St} {a : Act} {w : World} {e : Env} (h : RSt G σ a w e) (x : Operand) : RepF w e (σ.ev x) (a.eval x) := by
  cases x with
  | tmp t =>
    show RepF w e (σ.tmps.getD t .bad) (a.tmps.getD t undef)
    by_cases ht : t < σ.tmps.length
    · have hl := h.tmps.1
      have ht' : t < a.tmps.size := by simpa [hl] using ht
      refine h.tmps.2 t _ _ ?_ ?_
      · rw [List.getD_eq_getElem?_getD, List.getElem?_eq_getElem ht]; rfl
      · simp [Array.getD, ht']
    · rw [List.getD_eq_getElem?_getD, List.getElem?_eq_none (Nat.le_of_not_lt ht)]
      exact ⟨.bad _, trivial⟩
  | const v => exact rep_absV w e v
  | global g => exact ⟨.im _, trivial⟩
  | func f => exact ⟨.fn _ _ _ _ _ rfl rfl (fun i v u h => by simp at h) (fun i v u h => by simp at h), trivial⟩

theorem rep_demote {w : World} {e : Env} {v : V} {u : Value} (p : Nat → Bool) (h : Rep w e v u) : Rep w e (V.demote p v) u := by
  cases h with
  | dat es rows fl b o cap u hes hcap ht h1 h2 =>
    cases fl with
    | cls c =>
      simp only [V.demote]
      split
      · exact .dat es rows _ b o cap u hes hcap (by simp) h1 h2
      · exact .dat es rows _ b o cap u hes hcap (by simp) h1 h2
    | no => exact .dat es rows _ b o cap u hes hcap ht h1 h2
    | tight => exact .dat es rows _ b o cap u hes hcap ht h1 h2
  | nil es fl => cases fl <;> simp only [V.demote] <;> first | exact .nil _ _ | (split <;> exact .nil _ _)
  | nul es fl a => cases fl <;> simp only [V.demote] <;> first | exact .nul _ _ _ | (split <;> exact .nul _ _ _)
  | im => exact .im _
  | str l => exact .str l
  | ptr id off hid => exact .ptr id off hid
  | rp cs b o u h1 h2 => exact .rp cs b o u h1 h2
  | arr id es len cap hid h => exact .arr id es len cap hid h
  | sub id es off len cap o hid h ho => exact .sub id es off len cap o hid h ho
  | fn f first caps first' caps' hl1 hl2 h1 h2 => exact .fn f first caps first' caps' hl1 hl2 h1 h2
  | mp id hid => exact .mp id hid
  | yld id hid => exact .yld id hid
  | agg cs us hl h => exact .agg cs us hl h
  | tup cs us hl h => exact .tup cs us hl h
  | bad => exact .bad _

theorem flagOk_demote {e : Env} {v : V} {u : Value} (p : Nat → Bool) (h : FlagOk e v u) : FlagOk e (V.demote p v) u := by
  cases v with
  | dat es rows fl =>
    cases fl with
    | cls c =>
      simp only [V.demote]
      split
      · simp [FlagOk]
      · exact h
    | no => exact h
    | tight => exact h
  | _ => exact h

theorem RepF.demote {w : World} {e : Env} {v : V} {u : Value} (p : Nat → Bool) (h : RepF w e v u) : RepF w e (V.demote p v) u := ⟨rep_demote p h.1, flagOk_demote p h.2⟩

theorem strip_eq (v : V) : v.strip = V.demote (fun _ => true) v := by
  cases v with
  | dat es rows fl => cases fl <;> rfl
  | _ => rfl

theorem flagOk_strip (e : Env) (v : V) (u : Value) : FlagOk e v.strip u := by
  cases v with
  | dat es rows fl => cases fl <;> simp [V.strip, FlagOk]
  | _ => simp [V.strip, FlagOk]

theorem Rep.strip {w : World} {e : Env} {v : V} {u : Value} (h : Rep w e v u) : RepF w e v.strip u := ⟨by rw [strip_eq]; exact rep_demote _ h, flagOk_strip e v u⟩

/-- What an operation comes to. -/
def OpDone (P : Program) (G : Nat → Option (List V)) (o : Oper) (σ : St) (a : Act) (w : World) (e : Env) (k : V → St → Prop) : Prop :=
  ∃ u w' v σ' e', ((execOp a.eval o).run P w = .ok (.value u) w' ∨ ((execOp a.eval o).run P w = .ok .skip w' ∧ u = undef)) ∧ k v σ' ∧ σ'.cur = σ.cur ∧
    RSt G σ' a w' e' ∧ RepF w' e' v u ∧ Ext σ.H w e σ'.H w' e'

theorem opDone_pure {o : Oper} {σ : St} {a : Act} {w : World} {e : Env} {k : V → St → Prop} (h : RSt G σ a w e) {u : Value} {v : V}
    (hr : (execOp a.eval o).run P w = .ok (.value u) w) (hk : k v σ) (hv : RepF w e v u) : OpDone P G o σ a w e k :=
  ⟨u, w, v, σ, e, .inl hr, hk, rfl, h, hv, .refl _ _ _⟩

/-! ### runs -/
theorem run_value {s : Sem Value} {w w' : World} {u : Value} (h : s.run P w = .ok u w') : Sem.run P (do pure (Next.value (← s))) w = .ok (.value u) w' := by
  show Sem.run P (s.bind _) w = _
  rw [show (s.bind fun x => (pure (Next.value x) : Sem Next)) = (s >>= fun x => pure (Next.value x)) from rfl, Sem.run_bind, h]
  rfl

theorem run_underlying' {t : TypeId} {d : TypeDesc} (h : P.underlying t = some d) (w : World) : (underlying t).run P w = .ok d w := by
  simp [underlying, program, Sem.run_bind, Sem.run, h, Result.andThen]

theorem run_typeInfo' {t : TypeId} {i : TypeInfo} (h : P.info? t = some i) (w : World) : (typeInfo t).run P w = .ok i w := by
  simp [typeInfo, program, Sem.run_bind, Sem.run, h, Result.andThen]

theorem tk_some {t : TypeId} {b : Bool} {n : Nat} (h : tk P t = some (b, n)) (w : World) : (isAgg t).run P w = .ok b w ∧ (sizeOf t).run P w = .ok n w := by
  unfold tk at h
  cases hd : P.underlying t with
  | none => simp [hd] at h
  | some d =>
    cases hi : P.info? t with
    | none => cases d <;> simp [hd, hi] at h
    | some i =>
      have h2 : (sizeOf t).run P w = .ok i.size w := by
        unfold sizeOf
        rw [Sem.run_bind, run_typeInfo' hi]
        rfl
      refine ⟨?_, ?_⟩
      · unfold isAgg
        rw [Sem.run_bind, run_underlying' hd]
        cases d <;> simp [hd, hi] at h <;> (obtain ⟨rfl, _⟩ := h; rfl)
      · rw [h2]
        cases d <;> simp [hd, hi] at h <;> (obtain ⟨_, rfl⟩ := h; rfl)


/-! ### loads -/
theorem run_load_cel {b o : Nat} {w : World} {u : Value} (h : cel w b o = some u) : (load ⟨b, o, none⟩).run P w = .ok u w := by
  unfold cel at h
  simp [load, Sem.run, h]

theorem add_zero' (b o : Nat) : (⟨b, o, none⟩ : Addr).add 0 = ⟨b, o, none⟩ := rfl
theorem addr_add (b o n : Nat) : (⟨b, o, none⟩ : Addr).add n = ⟨b, o + n, none⟩ := by
  unfold Addr.add
  split
  · subst_vars; rfl
  · rfl

theorem run_loadCellsFrom {b o : Nat} {w : World} {us : Nat → Value} (n : Nat) : ∀ (i : Nat) (acc : Array Value),
    (∀ j, j < n → cel w b (o + (i + j)) = some (us (i + j))) →
    (loadCellsFrom ⟨b, o, none⟩ i n acc).run P w = .ok (acc ++ ((List.range' i n).map us).toArray) w := by
  induction n with
  | zero => intro i acc _; simp [loadCellsFrom, Sem.run_pure]
  | succ n ih =>
    intro i acc h
    simp only [loadCellsFrom]
    rw [Sem.run_bind, addr_add, run_load_cel (show cel w b (o + i) = some (us i) from h 0 (by omega))]
    simp only [Result.andThen]
    rw [ih (i + 1) _ (fun j hj => by have := h (j + 1) (by omega); rw [show i + 1 + j = i + (j + 1) by omega]; exact this)]
    simp [List.range'_succ]

theorem run_loadCells {b o : Nat} {w : World} {us : Nat → Value} {n : Nat} (h : ∀ j, j < n → cel w b (o + j) = some (us j)) :
    (loadCells ⟨b, o, none⟩ n).run P w = .ok ((List.range n).map us).toArray w := by
  unfold loadCells
  rw [run_loadCellsFrom n 0 #[] (fun j hj => by simpa using h j hj)]
  simp [List.range_eq_range']

/-- Cells that lie in a row, and what is loaded of them. -/
theorem load_cells {w : World} {e : Env} {vs : List V} {b o : Nat} {us : Nat → Value} {F : V → Value → Prop} (t : TypeId) {K : V → Prop}
    (h1 : ∀ (j : Nat) (v : V), vs[j]? = some v → cel w b (o + j) = some (us j)) (h2 : ∀ (j : Nat) (v : V), vs[j]? = some v → Rep w e v (us j))
    (hf : ∀ (j : Nat) (v : V), vs[j]? = some v → F v (us j))
    (h : evLoadCells P t vs K) : ∃ u v, (loadVar t ⟨b, o, none⟩).run P w = .ok u w ∧ K v ∧ Rep w e v u ∧ ((∀ cs u, F (.agg cs) u) → F v u) := by
  unfold evLoadCells at h
  cases htk : tk P t with
  | none => rw [htk] at h; exact h.elim
  | some bn =>
    obtain ⟨bb, n⟩ := bn
    obtain ⟨r1, r2⟩ := tk_some htk w
    rw [htk] at h
    cases bb with
    | true =>
      obtain ⟨hle, hk⟩ := h
      refine ⟨.agg ((List.range n).map us).toArray, _, ?_, hk, ?_, fun hF => hF _ _⟩
      · unfold loadVar
        rw [Sem.run_bind, r1]
        simp only [Result.andThen, if_true]
        rw [Sem.run_bind, r2]
        simp only [Result.andThen]
        rw [Sem.run_bind, run_loadCells (us := us) (fun j hj => h1 j vs[j] (List.getElem?_eq_getElem (by omega)))]
        rfl
      · refine .agg _ _ (by simp; omega) (fun i v u hv hu => ?_)
        rw [List.getElem?_take] at hv
        split at hv
        · rename_i hi
          have hu' : us i = u := by simpa [hi] using hu
          exact hu' ▸ h2 i v hv
        · cases hv
    | false =>
      cases vs with
      | nil => exact h.elim
      | cons v rest =>
        have hc := h1 0 v rfl
        refine ⟨us 0, v, ?_, h, h2 0 v rfl, fun _ => hf 0 v rfl⟩
        unfold loadVar
        rw [Sem.run_bind, r1]
        simp only [Result.andThen]
        exact run_load_cel (by simpa using hc)

end Go.Abs

/-! Sound2 -/
/- New blocks, stores, and what they leave as it was. -/
namespace Go.Abs
open Go.RowKit

variable {P : Program} {G : Nat → Option (List V)}

/-- What keeps every value as it was. -/
structure Mono (w : World) (e : Env) (w' : World) (e' : Env) : Prop where
  N : e.N ≤ e'.N
  ρ : ∀ id, id < e.N → e'.ρ id = e.ρ id
  ro : ∀ b o, e.RO b o → e'.RO b o ∧ cel w' b o = cel w b o
  sp : ∀ c b o, e.Sp c b o → e'.Sp c b o

theorem Mono.refl (w : World) (e : Env) : Mono w e w e := ⟨Nat.le_refl _, fun _ _ => rfl, fun _ _ h => ⟨h, rfl⟩, fun _ _ _ h => h⟩

theorem Mono.pure {w w' : World} {e e' : Env} (m : Mono w e w' e') : Mono w e.pure w' e'.pure := ⟨Nat.le_refl _, fun _ h => absurd h (Nat.not_lt_zero _), m.ro, m.sp⟩

theorem Rep.mono {w w' : World} {e e' : Env} {v : V} {u : Value} (h : Rep w e v u) (m : Mono w e w' e') : Rep w' e' v u := h.mono' m.N m.ρ m.ro
theorem RepF.mono {w w' : World} {e e' : Env} {v : V} {u : Value} (h : RepF w e v u) (m : Mono w e w' e') : RepF w' e' v u :=
  ⟨h.1.mono m, h.2.mono fun _ _ c _ => m.sp c⟩
theorem Reps.mono {w w' : World} {e e' : Env} {vs : List V} {us : List Value} (h : Reps w e vs us) (m : Mono w e w' e') : Reps w' e' vs us :=
  ⟨h.1, fun i v u hv hu => (h.2 i v u hv hu).mono m⟩

theorem RepBlk.mono {w w' : World} {e e' : Env} {r : Nat} {b : Blk} (h : RepBlk w e r b) (m : Mono w e w' e') (hb : w'.heap[r]? = w.heap[r]?) : RepBlk w' e' r b := by
  cases h with
  | cells t vs cs hc hl h => exact .cells t vs cs (hb.trans hc) hl fun i v u hv hu => (h i v u hv hu).mono m
  | map es ms clock hc hl hk h => exact .map es ms clock (hb.trans hc) hl hk fun i x y hx hy => ⟨(h i x y hx hy).1.mono m, (h i x y hx hy).2.mono m⟩
  | iter k since stepped seen hc hd => exact .iter k since stepped seen (by rw [hb, hc, m.ρ k hd]) (Nat.lt_of_lt_of_le hd m.N)
  | loop st pend fn tmps params assign body d us hc hd hl h =>
    exact .loop st pend fn tmps params assign body d us (by rw [hb, hc, m.ρ d hd]) (Nat.lt_of_lt_of_le hd m.N) hl fun i v u hv hu => (h i v u hv hu).mono m
  | defd hc => exact .defd (hb.trans hc)

theorem RepBlk.lt {w : World} {e : Env} {r : Nat} {b : Blk} (h : RepBlk w e r b) : r < w.heap.size := by
  cases h <;> rename_i hc <;> first
    | exact (Array.getElem?_eq_some_iff.1 ‹w.heap[r]? = _›).1

theorem RHeap.liveLt {H : Heap} {w : World} {e : Env} (h : RHeap G H w e) {id : Nat} (hl : live H id) : e.ρ id < w.heap.size := by
  obtain ⟨b, hb⟩ := hl
  exact (h.blk id b hb).lt

theorem live_lt {H : Heap} {id : Nat} (h : live H id) : id < H.length := by
  obtain ⟨b, hb⟩ := h
  exact (List.getElem?_eq_some_iff.1 hb).1

/-! ### a new block -/
def Env.push (e : Env) (r : Nat) : Env := { e with N := e.N + 1, ρ := fun id => if id = e.N then r else e.ρ id }

theorem Env.push_old (e : Env) (r : Nat) {id : Nat} (h : id < e.N) : (e.push r).ρ id = e.ρ id := by
  simp [Env.push]; omega
theorem Env.push_new (e : Env) (r : Nat) : (e.push r).ρ e.N = r := by simp [Env.push]

theorem cel_alloc (w : World) (o : Obj) {b : Nat} (h : b < w.heap.size) (i : Nat) : cel (w.alloc o) b i = cel w b i := by
  unfold cel World.cell?
  rw [Below.heap_alloc w o b h]
theorem fro_alloc (w : World) (o : Obj) {b : Nat} (h : b < w.heap.size) (i : Nat) : fro (w.alloc o) b i = fro w b i := by
  unfold fro World.frozen?
  rw [Below.heap_alloc w o b h]

theorem Mono.push {H : Heap} {w : World} {e : Env} (hR : RHeap G H w e) (o : Obj) (r : Nat) : Mono w e (w.alloc o) (e.push r) where
  N := by simp [Env.push]
  ρ := fun id h => e.push_old r h
  ro := fun b i h => ⟨h, cel_alloc w o (lt_of_cel (hR.ro b i h)) i⟩
  sp := fun _ _ _ h => h

theorem live_push {H : Heap} {x : Option Blk} {id : Nat} (h : live (H ++ [x]) id) : live H id ∨ (id = H.length ∧ x.isSome) := by
  obtain ⟨b, hb⟩ := h
  by_cases hid : id < H.length
  · rw [List.getElem?_append_left hid] at hb
    exact .inl ⟨b, hb⟩
  · rw [List.getElem?_append_right (by omega)] at hb
    by_cases h0 : id - H.length = 0
    · rw [h0] at hb
      simp at hb
      exact .inr ⟨by omega, by simp [hb]⟩
    · obtain ⟨k, hk⟩ : ∃ k, id - H.length = k + 1 := ⟨id - H.length - 1, by omega⟩
      rw [hk] at hb
      simp at hb

theorem RHeap.push {H : Heap} {w : World} {e : Env} (hR : RHeap G H w e) (o : Obj) (b : Blk) (hb : RepBlk (w.alloc o) (e.push w.heap.size) w.heap.size b) :
    RHeap G (H ++ [some b]) (w.alloc o) (e.push w.heap.size) ∧ Ext H w e (H ++ [some b]) (w.alloc o) (e.push w.heap.size) := by
  have hN := hR.len
  have m : Mono w e (w.alloc o) (e.push w.heap.size) := Mono.push hR o _
  have hnew : ∀ id, live (H ++ [some b]) id → (live H id ∧ (e.push w.heap.size).ρ id = e.ρ id) ∨ (id = H.length ∧ (e.push w.heap.size).ρ id = w.heap.size) := by
    intro id hl
    rcases live_push hl with h | ⟨h, _⟩
    · exact .inl ⟨h, e.push_old _ (by rw [hN]; exact live_lt h)⟩
    · exact .inr ⟨h, by rw [h, ← hN]; exact e.push_new _⟩
  refine ⟨⟨by simp [Env.push, hN], ?_, ?_, ?_, ?_, ?_, ?_, ?_⟩, ⟨rfl, rfl, rfl, by simp, by simp, ?_, ?_, ?_, ?_, ?_, ?_, ?_, ?_⟩⟩
  · intro id b' hb'
    rcases hnew id ⟨b', hb'⟩ with ⟨h, he⟩ | ⟨h, he⟩
    · rw [List.getElem?_append_left (live_lt h)] at hb'
      rw [he]
      exact (hR.blk id b' hb').mono m (Below.heap_alloc _ _ _ (hR.blk id b' hb').lt)
    · rw [he]
      subst h
      rw [List.getElem?_append_right (Nat.le_refl _)] at hb'
      simp at hb'
      subst hb'
      exact hb
  · intro i j hi hj he
    rcases hnew i hi with ⟨h1, e1⟩ | ⟨h1, e1⟩ <;> rcases hnew j hj with ⟨h2, e2⟩ | ⟨h2, e2⟩
    · exact hR.inj i j h1 h2 (by rw [← e1, ← e2]; exact he)
    · have := hR.liveLt h1; rw [e1, e2] at he; omega
    · have := hR.liveLt h2; rw [e1, e2] at he; omega
    · omega
  · intro b' i h
    have h1 := hR.ro b' i h
    rw [cel_alloc w o (lt_of_cel h1)]
    exact h1
  · intro id i hl hro
    rcases hnew id hl with ⟨h, he⟩ | ⟨h, he⟩
    · exact hR.roOwn id i h (he ▸ hro)
    · have := lt_of_cel (hR.ro _ _ hro); rw [he] at this; omega
  · intro c b' i h
    obtain ⟨h1, h2, h3, h4⟩ := hR.sp c b' i h
    have hlt := lt_of_cel h1
    refine ⟨by rw [cel_alloc w o hlt]; exact h1, by rw [fro_alloc w o hlt]; exact h2, h3, fun id hl he => ?_⟩
    rcases hnew id hl with ⟨h, he'⟩ | ⟨h, he'⟩
    · exact h4 id h (by rw [← he']; exact he)
    · rw [he'] at he; omega
  · exact hR.spd
  · exact fun g cs h => (hR.glob g cs h).mono m
  · exact fun id hid => e.push_old _ (by omega)
  · intro id hid hl
    rcases hnew id hl with ⟨h, _⟩ | ⟨_, he⟩
    · have := live_lt h; omega
    · rw [he]; exact Nat.le_refl _
  · intro id hid hl
    rcases hnew id hl with ⟨h, _⟩ | ⟨h, _⟩
    · exact h
    · omega
  · exact fun _ _ h => h
  · exact fun _ _ h => .inl h
  · exact fun c _ _ h => .inr ⟨c, h⟩
  · exact fun b' i hb' _ _ => ⟨cel_alloc w o hb' i, fro_alloc w o hb' i⟩
  · exact fun b' hb' _ _ => Below.heap_alloc _ _ _ hb'

theorem RSt.push {σ : St} {a : Act} {w : World} {e : Env} (h : RSt G σ a w e) (o : Obj) (b : Blk) (hb : RepBlk (w.alloc o) (e.push w.heap.size) w.heap.size b) :
    RSt G { σ with H := σ.H ++ [some b] } a (w.alloc o) (e.push w.heap.size) := by
  have m : Mono w e (w.alloc o) (e.push w.heap.size) := Mono.push h.heap o _
  refine ⟨(h.heap.push o b hb).1, h.tmps.mono m, ?_, fun id hid => Nat.lt_of_lt_of_le (h.defsN id hid) m.N, fun id hid => Nat.lt_of_lt_of_le (h.cur id hid) m.N⟩
  rw [h.defs]
  refine List.map_congr_left fun id hid => ?_
  rw [m.ρ id (h.defsN id hid)]

theorem reps_cells {w : World} {e : Env} {v : V} {u : Value} {cs : List V} (h : RepF w e v u) (hc : v.cellsF = some cs) : Reps w e cs u.cells.toList := by
  obtain ⟨h1, h2⟩ := h
  have one : ∀ v u, RepF w e v u → Reps w e [v] [u] := fun v u h => ⟨rfl, fun i x y hx hy => by
    cases i with
    | zero => simp at hx hy; subst hx; subst hy; exact h
    | succ i => simp at hx⟩
  cases h1 with
  | agg cs' us hl h =>
    simp only [V.cellsF, Option.some.injEq] at hc
    subst hc
    refine ⟨by simpa [Value.cells] using hl, fun i x y hx hy => ?_⟩
    rw [List.getElem?_map] at hx
    obtain ⟨x', hx', rfl⟩ := Option.map_eq_some_iff.1 hx
    exact (h i x' y hx' (by simpa [Value.cells] using hy)).strip
  | im =>
    cases u <;> simp only [V.cellsF, Option.some.injEq, reduceCtorEq] at hc <;> subst hc <;> exact one _ _ ⟨.im _, h2⟩
  | bad => simp [V.cellsF] at hc
  | tup cs' us hl h => simp [V.cellsF] at hc
  | str l => simp only [V.cellsF, Option.some.injEq] at hc; subst hc; exact one _ _ ⟨.str l, h2⟩
  | ptr id off hid => simp only [V.cellsF, Option.some.injEq] at hc; subst hc; exact one _ _ ⟨.ptr id off hid, h2⟩
  | rp cs' b o us h1 h3 => simp only [V.cellsF, Option.some.injEq] at hc; subst hc; exact one _ _ ⟨.rp cs' b o us h1 h3, h2⟩
  | nil es fl => simp only [V.cellsF, Option.some.injEq] at hc; subst hc; exact one _ _ ⟨.nil es fl, h2⟩
  | nul es fl a => simp only [V.cellsF, Option.some.injEq] at hc; subst hc; exact one _ _ ⟨.nul es fl a, h2⟩
  | dat es rows fl b o cap us hes hcap ht h1 h3 => simp only [V.cellsF, Option.some.injEq] at hc; subst hc; exact one _ _ ⟨.dat es rows fl b o cap us hes hcap ht h1 h3, h2⟩
  | arr id es len cap hid h => simp only [V.cellsF, Option.some.injEq] at hc; subst hc; exact one _ _ ⟨.arr id es len cap hid h, h2⟩
  | sub id es off len cap o hid h ho => simp only [V.cellsF, Option.some.injEq] at hc; subst hc; exact one _ _ ⟨.sub id es off len cap o hid h ho, h2⟩
  | fn f first caps first' caps' hl1 hl2 h1 h3 => simp only [V.cellsF, Option.some.injEq] at hc; subst hc; exact one _ _ ⟨.fn f first caps first' caps' hl1 hl2 h1 h3, h2⟩
  | mp id hid => simp only [V.cellsF, Option.some.injEq] at hc; subst hc; exact one _ _ ⟨.mp id hid, h2⟩
  | yld id hid => simp only [V.cellsF, Option.some.injEq] at hc; subst hc; exact one _ _ ⟨.yld id hid, h2⟩

theorem repBlk_new {H : Heap} {w : World} {e : Env} {vs : List V} {us : Array Value} (hR : RHeap G H w e) (t : TypeId) (h : Reps w e vs us.toList) :
    RepBlk (w.alloc (.cells us t)) (e.push w.heap.size) w.heap.size (.cells t vs) :=
  .cells t vs us (World.alloc_heap_new w _) (by have := h.1; simp at this; omega) fun i v u hv hu => (h.2 i v u hv (by simpa using hu)).mono (Mono.push hR _ _)

/-- A new block of cells. -/
theorem opDone_new {o : Oper} {σ : St} {a : Act} {w : World} {e : Env} {k : V → St → Prop} (h : RSt G σ a w e) (t : TypeId) {u : Value} {cs : List V}
    (hr : (execOp a.eval o).run P w = .ok (.value (.pointer (some ⟨w.heap.size, 0, none⟩))) (w.alloc (.cells u.cells t))) (hc : Reps w e cs u.cells.toList)
    (hk : k (.ptr σ.H.length 0) { σ with H := σ.H ++ [some (.cells t cs)] }) : OpDone P G o σ a w e k := by
  have hb := repBlk_new h.heap t hc
  refine ⟨_, _, _, _, e.push w.heap.size, .inl hr, hk, rfl, h.push _ _ hb, ⟨?_, trivial⟩, (h.heap.push _ _ hb).2⟩
  have := Rep.ptr (w := w.alloc (.cells u.cells t)) (e := e.push w.heap.size) e.N 0 (by simp [Env.push])
  rw [Env.push_new, h.heap.len] at this
  exact this

theorem op_box {o : Oper} {σ : St} {a : Act} {w : World} {e : Env} {k : V → St → Prop} (h : RSt G σ a w e) (t : TypeId) (x : Operand) (ho : o.op = .box t x) (hk : evOp P G o σ k) :
    OpDone P G o σ a w e k := by
  simp only [evOp, ho] at hk
  cases hc : (σ.ev x).cellsF with
  | none => rw [hc] at hk; exact hk.elim
  | some cs =>
    rw [hc] at hk
    refine opDone_new h t (u := a.eval x) ?_ (reps_cells (h.ev x) hc) hk
    simp only [execOp, ho]
    exact run_value rfl

theorem zeroOf_some {t : TypeId} {cs : List V} (h : zeroOf P t = some cs) : ∃ i v, P.info? t = some i ∧ i.zero = some v ∧ ∀ w e, Reps w e cs v.cells.toList := by
  unfold zeroOf at h
  cases hi : P.info? t with
  | none => simp [hi] at h
  | some i =>
    cases hz : i.zero with
    | none => simp [hi, hz] at h
    | some v =>
      refine ⟨i, v, rfl, hz, fun w e => ?_⟩
      simp only [hi, hz, Option.bind_some] at h
      split at h
      · rename_i us he
        simp only [Option.some.injEq] at he h
        subst he; subst h
        refine ⟨by simp [Value.cells], fun j x y hx hy => ?_⟩
        rw [List.getElem?_map] at hx
        obtain ⟨x', hx', rfl⟩ := Option.map_eq_some_iff.1 hx
        have hy' : us.toList[j]? = some y := by simpa [Value.cells] using hy
        rw [hx'] at hy'
        simp only [Option.some.injEq] at hy'
        subst hy'
        exact rep_absV w e _
      · rename_i v' hne he
        simp only [Option.some.injEq] at he h
        subst h
        rw [he]
        have : v'.cells = #[v'] := by
          cases v' <;> first | rfl | exact (hne _ rfl).elim
        rw [this]
        refine ⟨rfl, fun j x y hx hy => ?_⟩
        cases j with
        | zero => simp at hx hy; subst hx; subst hy; exact rep_absV w e _
        | succ j => simp at hx
      · cases h

theorem op_alloc {o : Oper} {σ : St} {a : Act} {w : World} {e : Env} {k : V → St → Prop} (h : RSt G σ a w e) (t : TypeId) (ho : o.op = .alloc t) (hk : evOp P G o σ k) :
    OpDone P G o σ a w e k := by
  simp only [evOp, ho] at hk
  cases hc : zeroOf P t with
  | none => rw [hc] at hk; exact hk.elim
  | some cs =>
    rw [hc] at hk
    obtain ⟨i, v, hi, hz, hr⟩ := zeroOf_some hc
    refine opDone_new h t (u := v) ?_ (hr w e) hk
    simp only [execOp, ho]
    refine run_value ?_
    unfold Instr.alloc zeroValue
    rw [Sem.run_bind, Sem.run_bind, run_typeInfo' hi]
    simp only [Result.andThen, hz]
    rfl

theorem op_move {o : Oper} {σ : St} {a : Act} {w : World} {e : Env} {k : V → St → Prop} (h : RSt G σ a w e) (x : Operand) (ho : o.op = .move x ∨ o.op = .assign x) (hk : evOp P G o σ k) :
    OpDone P G o σ a w e k := by
  rcases ho with ho | ho <;>
  · simp only [evOp, ho] at hk
    exact opDone_pure h (u := a.eval x) (by simp only [execOp, ho]; rfl) hk (h.ev x)

end Go.Abs

/-! Sound3 -/
/- Loads, stores, arithmetic, parts. -/
namespace Go.Abs
open Go.RowKit

variable {P : Program} {G : Nat → Option (List V)}

theorem blk_cel {w : World} {e : Env} {r : Nat} {t : TypeId} {vs : List V} (h : RepBlk w e r (.cells t vs)) :
    ∃ cs : Array Value, w.heap[r]? = some (.cells cs t (0, 0)) ∧ vs.length ≤ cs.size ∧ (∀ j, j < cs.size → cel w r j = some (cs.getD j undef)) ∧
      ∀ (i : Nat) (v : V), vs[i]? = some v → RepF w e v (cs.getD i undef) := by
  cases h with
  | cells t vs cs hb hl h =>
    refine ⟨cs, hb, hl, fun j hj => ?_, fun i v hv => ?_⟩
    · unfold cel World.cell?
      simp [hb, hj]
    · have hi : i < cs.size := Nat.lt_of_lt_of_le (List.getElem?_eq_some_iff.1 hv).1 hl
      refine h i v _ hv ?_
      simp [hi]

/-! ### load -/
theorem op_load {o : Oper} {σ : St} {a : Act} {w : World} {e : Env} {k : V → St → Prop} (h : RSt G σ a w e) (t : TypeId) (x : Operand) (ho : o.op = .load t x) (hk : evOp P G o σ k) :
    OpDone P G o σ a w e k := by
  simp only [evOp, ho] at hk
  have hx := asRp_repF h.heap (h.ev x)
  have main : ∀ (b off : Nat) (vs : List V) (us : Nat → Value), a.eval x = .pointer (some ⟨b, off, none⟩) →
      (∀ (j : Nat) (v : V), vs[j]? = some v → cel w b (off + j) = some (us j)) → (∀ (j : Nat) (v : V), vs[j]? = some v → Rep w e v (us j)) →
      (∀ (j : Nat) (v : V), vs[j]? = some v → FlagOk e v (us j)) → evLoadCells P t vs (fun v => k v σ) → OpDone P G o σ a w e k := by
    intro b off vs us hp h1 h2 h3 hl
    obtain ⟨u, v, hr, hk, hv⟩ := load_cells (F := FlagOk e) t h1 h2 h3 hl
    have hv : RepF w e v u := ⟨hv.1, hv.2 (by simp [FlagOk])⟩
    refine opDone_pure h (u := u) ?_ hk hv
    simp only [execOp, ho, hp]
    refine run_value ?_
    unfold Instr.loadAt Instr.sureAddr
    exact hr
  generalize hv : asRp G (σ.ev x) = v at hk hx
  obtain ⟨hx1, hx2⟩ := hx
  cases v with
  | ptr id off =>
    simp only [evLoad] at hk
    split at hk
    · rename_i t' vs hH
      generalize hu : a.eval x = u at hx1
      cases hx1 with
      | ptr id off hid =>
        obtain ⟨cs, hb, hl, hc, hr⟩ := blk_cel (h.heap.blk id _ hH)
        refine main (e.ρ id) off _ (fun j => cs.getD (off + j) undef) hu (fun j v hj => ?_) (fun j v hj => ?_) (fun j v hj => ?_) hk
        · rw [List.getElem?_drop] at hj
          exact hc _ (Nat.lt_of_lt_of_le (List.getElem?_eq_some_iff.1 hj).1 hl)
        · rw [List.getElem?_drop] at hj
          exact (hr _ v hj).1
        · rw [List.getElem?_drop] at hj
          exact (hr _ v hj).2
    · exact hk.elim
  | rp cs =>
    simp only [evLoad] at hk
    generalize hu : a.eval x = u at hx1
    cases hx1 with
    | rp cs b off us h1 h2 =>
      obtain ⟨u, v, hr, hk, hv⟩ := load_cells (F := fun _ _ => True) t (fun j v hj => (h1 j v hj).1) (fun j v hj => (h2 j v hj).held) (fun _ _ _ => trivial) hk
      refine opDone_pure h (u := u) ?_ hk hv.1.strip
      simp only [execOp, ho, hu]
      refine run_value ?_
      unfold Instr.loadAt Instr.sureAddr
      exact hr
  | _ => exact hk.elim

/-! ### store -/
theorem cel_setCell (w : World) (b o b' o' : Nat) (v : Value) :
    cel (w.setCell ⟨b, o, none⟩ v) b' o' = if b' = b ∧ o' = o ∧ (cel w b o).isSome then some v else cel w b' o' := by
  unfold cel World.cell? World.setCell
  simp only [Array.getElem?_modify]
  by_cases hb : b = b'
  · subst hb
    cases hh : w.heap[b]? with
    | none => simp
    | some ob =>
      cases ob with
      | cells c t fr =>
        simp only [if_true, Option.map_some, Option.isSome_none, Bool.false_eq_true, if_false, true_and]
        rw [Array.getElem?_setIfInBounds]
        by_cases ho : o = o'
        · subst ho
          by_cases hs : o < c.size
          · simp [hs]
          · simp [hs]
        · have : ¬ o' = o := fun h => ho h.symm
          simp [ho, this]
      | _ => simp
  · have : ¬ b' = b := fun h => hb h.symm
    simp [hb, this]

theorem fro_setCell (w : World) (b o b' o' : Nat) (v : Value) : fro (w.setCell ⟨b, o, none⟩ v) b' o' = fro w b' o' := by
  unfold fro World.frozen? World.setCell
  simp only [Array.getElem?_modify]
  by_cases hb : b = b'
  · subst hb
    cases hh : w.heap[b]? with
    | none => simp
    | some ob => cases ob <;> simp
  · simp [hb]

/-- The value of one cell. -/
def one : Value → Bool
  | .agg _ | .tuple _ => false
  | _ => true

/-- Some cells of a block, in a row, get new values. -/
def setCells (w : World) (b o : Nat) : List Value → World
  | [] => w
  | v :: rest => setCells (w.setCell ⟨b, o, none⟩ v) b (o + 1) rest

theorem setCells_heap (b : Nat) (t : TypeId) (vs : List Value) : ∀ (w : World) (o : Nat) (cs : Array Value), w.heap[b]? = some (.cells cs t (0, 0)) →
    ∃ cs' : Array Value, (setCells w b o vs).heap[b]? = some (.cells cs' t (0, 0)) ∧ cs'.size = cs.size ∧
      ∀ j, cs'[j]? = if o ≤ j ∧ j < o + vs.length ∧ j < cs.size then vs[j - o]? else cs[j]? := by
  induction vs with
  | nil => intro w o cs h; exact ⟨cs, h, rfl, fun j => by rw [if_neg (by simp; omega)]⟩
  | cons v rest ih =>
    intro w o cs h
    have h1 : (w.setCell ⟨b, o, none⟩ v).heap[b]? = some (.cells (cs.setIfInBounds o v) t (0, 0)) := by
      simp [World.setCell, Array.getElem?_modify, h]
    obtain ⟨cs', h2, h3, h4⟩ := ih _ (o + 1) _ h1
    refine ⟨cs', h2, by simpa using h3, fun j => ?_⟩
    rw [h4 j, Array.getElem?_setIfInBounds]
    simp only [Array.size_setIfInBounds, List.length_cons]
    by_cases hj : o = j
    · subst hj
      rw [if_neg (by omega)]
      by_cases hs : o < cs.size
      · simp [hs]
      · simp [hs]
    · by_cases h5 : o + 1 ≤ j ∧ j < o + 1 + rest.length ∧ j < cs.size
      · rw [if_pos h5, if_pos (by omega)]
        obtain ⟨k, hk⟩ : ∃ k, j - o = k + 1 := ⟨j - o - 1, by omega⟩
        rw [hk, show j - (o + 1) = k by omega]
        simp
      · rw [if_neg h5, if_neg hj]
        by_cases h6 : o ≤ j ∧ j < o + (rest.length + 1) ∧ j < cs.size
        · omega
        · rw [if_neg h6]

theorem setCells_other (b : Nat) (vs : List Value) : ∀ (w : World) (o b' : Nat), b' ≠ b → (setCells w b o vs).heap[b']? = w.heap[b']? := by
  induction vs with
  | nil => intro w o b' _; rfl
  | cons v rest ih =>
    intro w o b' h
    rw [setCells, ih _ _ _ h]
    exact Below.heap_setCell _ _ _ _ h

theorem setCells_size (b : Nat) (vs : List Value) : ∀ (w : World) (o : Nat), (setCells w b o vs).heap.size = w.heap.size := by
  induction vs with
  | nil => intro w o; rfl
  | cons v rest ih => intro w o; rw [setCells, ih]; simp [World.setCell]

theorem setCells_rest (b : Nat) (vs : List Value) : ∀ (w : World) (o : Nat), (setCells w b o vs).os = w.os ∧ (setCells w b o vs).tape = w.tape ∧ (setCells w b o vs).output = w.output := by
  induction vs with
  | nil => intro w o; exact ⟨rfl, rfl, rfl⟩
  | cons v rest ih => intro w o; exact ih _ _

theorem run_storeCells (b : Nat) (t : TypeId) (vs : List Value) : ∀ (w : World) (o i : Nat) (cs : Array Value), w.heap[b]? = some (.cells cs t (0, 0)) → o + i + vs.length ≤ cs.size → (∀ v ∈ vs, one v = true) →
    (storeCells ⟨b, o, none⟩ vs i).run P w = .ok () (setCells w b (o + i) vs) := by
  induction vs with
  | nil => intro w o i cs _ _ _; rfl
  | cons v rest ih =>
    intro w o i cs h hl h1
    simp only [storeCells]
    rw [Sem.run_bind, addr_add]
    have hs : (store ⟨b, o + i, none⟩ v).run P w = .ok () (w.setCell ⟨b, o + i, none⟩ v) := by
      have hc : w.cell? ⟨b, o + i, none⟩ = some (cs.getD (o + i) undef) := by
        have : o + i < cs.size := by simp at hl; omega
        unfold World.cell?
        simp [h, this]
      have hf : w.frozen? ⟨b, o + i, none⟩ = false := by
        unfold World.frozen?
        simp [h]
      have hv := h1 v (by simp)
      cases v <;> first
        | (simp [one] at hv; done)
        | (simp [store, Sem.run, hc, hf])
    rw [hs]
    simp only [Result.andThen]
    have h2 : (w.setCell ⟨b, o + i, none⟩ v).heap[b]? = some (.cells (cs.setIfInBounds (o + i) v) t (0, 0)) := by
      simp [World.setCell, Array.getElem?_modify, h]
    rw [ih _ o (i + 1) _ h2 (by simp at hl ⊢; omega) (fun v hv => h1 v (by simp [hv]))]
    rfl

theorem setRange_get {vs cs : List V} {off : Nat} (h : off + cs.length ≤ vs.length) (j : Nat) :
    (setRange vs off cs)[j]? = if off ≤ j ∧ j < off + cs.length then cs[j - off]? else vs[j]? := by
  unfold setRange
  by_cases h1 : j < off
  · rw [if_neg (by omega), List.append_assoc, List.getElem?_append_left (by simp; omega), List.getElem?_take, if_pos h1]
  · by_cases h2 : j < off + cs.length
    · rw [if_pos (by omega), List.append_assoc, List.getElem?_append_right (by simp; omega), List.getElem?_append_left (by simp; omega)]
      simp only [List.length_take]
      rw [Nat.min_eq_left (by omega)]
    · rw [if_neg (by omega), List.getElem?_append_right (by simp; omega), List.getElem?_drop]
      simp only [List.length_append, List.length_take]
      rw [Nat.min_eq_left (by omega), show off + cs.length + (j - (off + cs.length)) = j by omega]

theorem setRange_length {vs cs : List V} {off : Nat} (h : off + cs.length ≤ vs.length) : (setRange vs off cs).length = vs.length := by
  simp [setRange]; omega

/-- A block that is there gets a new content, of the same kind of heap object or not. -/
theorem RHeap.setBlk {H : Heap} {w w' : World} {e : Env} (hR : RHeap G H w e) {id : Nat} (hl : live H id) (b : Blk)
    (hother : ∀ r, r ≠ e.ρ id → w'.heap[r]? = w.heap[r]?) (hsize : w'.heap.size = w.heap.size)
    (hrest : w'.os = w.os ∧ w'.tape = w.tape ∧ w'.output = w.output)
    (hb : Mono w e w' e → RepBlk w' e (e.ρ id) b) :
    Mono w e w' e ∧ RHeap G (H.set id (some b)) w' e ∧ Ext H w e (H.set id (some b)) w' e := by
  have hcel : ∀ r i, r ≠ e.ρ id → cel w' r i = cel w r i ∧ fro w' r i = fro w r i := by
    intro r i hr
    unfold cel fro World.cell? World.frozen?
    rw [hother r hr]
    exact ⟨rfl, rfl⟩
  have m : Mono w e w' e := ⟨Nat.le_refl _, fun _ _ => rfl, fun b' i h => ⟨h, (hcel b' i fun he => hR.roOwn id i hl (he ▸ h)).1⟩, fun _ _ _ h => h⟩
  have hlive : ∀ j, live (H.set id (some b)) j ↔ live H j := by
    intro j
    unfold live
    by_cases hj : id = j
    · subst hj
      have := live_lt hl
      constructor
      · exact fun _ => hl
      · exact fun _ => ⟨b, by rw [List.getElem?_set_self this]⟩
    · rw [List.getElem?_set_ne hj]
  refine ⟨m, ⟨by simp [hR.len], ?_, ?_, ?_, ?_, ?_, hR.spd, ?_⟩, ⟨hrest.1, hrest.2.1, hrest.2.2, by omega, by simp, fun _ _ => rfl, ?_, fun j _ h => (hlive j).1 h, fun _ _ h => h, fun _ _ h => .inl h, fun c _ _ h => .inr ⟨c, h⟩, ?_, ?_⟩⟩
  · intro j b' hj
    by_cases hjid : id = j
    · subst hjid
      rw [List.getElem?_set_self (live_lt hl)] at hj
      simp only [Option.some.injEq] at hj
      subst hj
      exact hb m
    · rw [List.getElem?_set_ne hjid] at hj
      refine (hR.blk j b' hj).mono m (hother _ fun he => hjid (hR.inj j id ⟨b', hj⟩ hl he).symm)
  · exact fun i j hi hj he => hR.inj i j ((hlive i).1 hi) ((hlive j).1 hj) he
  · intro b' i h
    rw [(m.ro b' i h).2]
    exact hR.ro b' i h
  · exact fun j i hj h => hR.roOwn j i ((hlive j).1 hj) h
  · intro c b' i h
    obtain ⟨h1, h2, h3, h4⟩ := hR.sp c b' i h
    have hne : b' ≠ e.ρ id := fun he => h4 id hl he.symm
    exact ⟨by rw [(hcel b' i hne).1]; exact h1, by rw [(hcel b' i hne).2]; exact h2, h3, fun j hj => h4 j ((hlive j).1 hj)⟩
  · exact fun g cs h => (hR.glob g cs h).mono m
  · intro j hj hl'
    have := live_lt ((hlive j).1 hl')
    omega
  · exact fun b' i _ ho _ => hcel b' i fun he => ho id hl he.symm
  · exact fun b' _ ho _ => hother b' fun he => ho id hl he.symm

theorem RSt.setBlk {σ : St} {a : Act} {w w' : World} {e : Env} (h : RSt G σ a w e) {H' : Heap} (m : Mono w e w' e) (hH : RHeap G H' w' e) : RSt G { σ with H := H' } a w' e :=
  ⟨hH, h.tmps.mono m, h.defs, h.defsN, h.cur⟩

theorem one_of_solid {w : World} {e : Env} {v : V} {u : Value} (h : Rep w e v u) (hs : v.solid = true) : one u = true := by
  cases h with
  | im => cases u <;> simp [V.solid] at hs <;> rfl
  | bad => simp [V.solid] at hs
  | agg => simp [V.solid] at hs
  | tup => simp [V.solid] at hs
  | _ => rfl

theorem op_store {o : Oper} {σ : St} {a : Act} {w : World} {e : Env} {k : V → St → Prop} (h : RSt G σ a w e) (t : TypeId) (x y : Operand) (ho : o.op = .store t x y) (hk : evOp P G o σ k) :
    OpDone P G o σ a w e k := by
  simp only [evOp, ho] at hk
  have hx := (h.ev x).1
  have hy := h.ev y
  generalize hv : σ.ev x = v at hk hx
  generalize hvy : σ.ev y = vy at hk hy
  cases v with
  | ptr id off =>
    simp only [evStore] at hk
    split at hk
    · rename_i t' vs hH
      split at hk
      · rename_i _ _ cs bb n hcs htk
        obtain ⟨hn, hle, hsol, hk⟩ := hk
        generalize hu : a.eval x = u at hx
        cases hx with
        | ptr id off hid =>
          have hlive : live σ.H id := ⟨_, hH⟩
          have hrep := reps_cells hy hcs
          obtain ⟨cur, hb, hl, hc, hr⟩ := blk_cel (h.heap.blk id _ hH)
          have hlen : (a.eval y).cells.toList.length = n := by rw [← hrep.1]; exact hn
          have hone : ∀ u ∈ (a.eval y).cells.toList, one u = true := by
            intro u hu
            obtain ⟨i, hi, rfl⟩ := List.getElem_of_mem hu
            have hi' : i < cs.length := by rw [hrep.1]; exact hi
            refine one_of_solid (hrep.2 i cs[i] _ (List.getElem?_eq_getElem hi') (List.getElem?_eq_getElem hi)).1 ?_
            exact List.all_eq_true.1 hsol _ (List.getElem_mem hi')
          obtain ⟨_, r2⟩ := tk_some htk w
          have hrun := run_storeCells (P := P) (e.ρ id) t' (a.eval y).cells.toList w off 0 cur hb (by omega) hone
          obtain ⟨cs', hb', hs', hg'⟩ := setCells_heap (e.ρ id) t' (a.eval y).cells.toList w off cur hb
          obtain ⟨m, hH', hx'⟩ := h.heap.setBlk hlive (w' := setCells w (e.ρ id) off (a.eval y).cells.toList) (.cells t' (setRange vs off cs))
            (fun r hr => setCells_other _ _ _ _ _ hr) (setCells_size _ _ _ _) (setCells_rest _ _ _ _) (fun m => by
              refine .cells t' _ cs' hb' (by rw [setRange_length (by omega), hs']; exact hl) (fun i v u hv hu => ?_)
              rw [setRange_get (by omega)] at hv
              rw [hg' i] at hu
              by_cases hi : off ≤ i ∧ i < off + cs.length
              · rw [if_pos hi] at hv
                rw [if_pos (by omega)] at hu
                exact (hrep.2 _ v u hv hu).mono m
              · rw [if_neg hi] at hv
                rw [if_neg (by omega)] at hu
                have h1 := (List.getElem?_eq_some_iff.1 hv).1
                have := hr i v hv
                have hlt : i < cur.size := by omega
                simp only [Array.getElem?_eq_getElem hlt, Option.some.injEq] at hu
                have h2 : cur.getD i undef = u := by simp [hlt, hu]
                exact (h2 ▸ this).mono m)
          refine ⟨undef, _, .tup [], _, e, .inr ⟨?_, rfl⟩, hk, rfl, h.setBlk m hH', ⟨.tup [] #[] rfl (fun i v u h => by simp at h), trivial⟩, hx'⟩
          simp only [execOp, ho, hu]
          show Sem.run P (do Instr.storeAt t _ _; pure Next.skip) w = _
          rw [Sem.run_bind]
          unfold Instr.storeAt Instr.sureAddr storeVar
          have hsz : (a.eval y).cells.size = n := by simpa using hlen
          simp only [Sem.run_bind, Sem.run_pure, Result.andThen, r2, hsz, ne_eq, not_true_eq_false, if_false]
          rw [hrun]
          rfl
      · exact hk.elim
    · exact hk.elim
  | _ => exact hk.elim

end Go.Abs

/-! Sound4 -/
/- Structs, arrays and slices that are built; arithmetic; parts. -/
namespace Go.Abs
open Go.RowKit

variable {P : Program} {G : Nat → Option (List V)}

theorem foldl_set_get (l : List Value) : ∀ (cells : Array Value) (off s : Nat) (k : Nat),
    ((l.zipIdx s).foldl (fun cs (c, j) => cs.setIfInBounds (off + j) c) cells).size = cells.size ∧
    (off + s + l.length ≤ cells.size → ((l.zipIdx s).foldl (fun cs (c, j) => cs.setIfInBounds (off + j) c) cells)[k]? =
      if off + s ≤ k ∧ k < off + s + l.length then l[k - (off + s)]? else cells[k]?) := by
  induction l with
  | nil => intro cells off s k; exact ⟨rfl, fun _ => by rw [if_neg (by simp)]; rfl⟩
  | cons x l ih =>
    intro cells off s k
    simp only [List.zipIdx_cons, List.foldl_cons]
    obtain ⟨h1, h2⟩ := ih (cells.setIfInBounds (off + s) x) off (s + 1) k
    refine ⟨by rw [h1]; simp, fun hle => ?_⟩
    rw [h2 (by simp at hle ⊢; omega)]
    rw [Array.getElem?_setIfInBounds]
    simp only [List.length_cons] at hle ⊢
    by_cases hk : off + s = k
    · subst hk
      rw [if_neg (by omega), if_pos rfl, if_pos (by omega), if_pos (by omega)]
      simp
    · by_cases h5 : off + (s + 1) ≤ k ∧ k < off + (s + 1) + l.length
      · rw [if_pos h5, if_pos (by omega)]
        obtain ⟨j, hj⟩ : ∃ j, k - (off + s) = j + 1 := ⟨k - (off + s) - 1, by omega⟩
        rw [hj, show k - (off + (s + 1)) = j by omega]
        simp
      · rw [if_neg h5, if_neg hk]
        by_cases h6 : off + s ≤ k ∧ k < off + s + (l.length + 1)
        · omega
        · rw [if_neg h6]

theorem fill_of_fillV {w : World} {e : Env} {place : Nat → Option (Nat × Nat)} (parts : List (Nat × V)) : ∀ (parts' : List (Nat × Value)) (vs : List V) (us : Array Value) (cs : List V),
    parts.length = parts'.length → (∀ (i : Nat) (x : Nat × V) (y : Nat × Value), parts[i]? = some x → parts'[i]? = some y → x.1 = y.1 ∧ RepF w e x.2 y.2) →
    Reps w e vs us.toList → fillV place vs parts = some cs → ∃ us', Instr.fill place us parts' = some us' ∧ Reps w e cs us'.toList := by
  induction parts with
  | nil =>
    intro parts' vs us cs hl _ hr hf
    cases parts' with
    | nil => simp only [fillV, Option.some.injEq] at hf; subst hf; exact ⟨us, rfl, hr⟩
    | cons => simp at hl
  | cons x rest ih =>
    intro parts' vs us cs hl hp hr hf
    cases parts' with
    | nil => simp at hl
    | cons y rest' =>
      obtain ⟨i, v⟩ := x
      obtain ⟨i', u⟩ := y
      obtain ⟨he, hv⟩ := hp 0 (i, v) (i', u) rfl rfl
      dsimp only at he
      subst he
      simp only [fillV] at hf
      split at hf
      · rename_i off size cs0 hpl hcs
        split at hf
        · rename_i hsz
          have hrep := reps_cells hv hcs
          have hvl := hr.1
          have hlen : u.cells.size = size := by have := hrep.1; simp at this; omega
          have hus : off + u.cells.size ≤ us.size := by simp at hvl; omega
          simp only [Instr.fill, hpl]
          rw [if_neg (by simp; omega)]
          have hfold : ∀ k, (u.cells.zipIdx.foldl (fun cs (x : Value × Nat) => cs.setIfInBounds (off + x.2) x.1) us).size = us.size ∧
              (u.cells.zipIdx.foldl (fun cs (x : Value × Nat) => cs.setIfInBounds (off + x.2) x.1) us)[k]? = if off ≤ k ∧ k < off + u.cells.size then u.cells.toList[k - off]? else us[k]? := by
            intro k
            have h0 := foldl_set_get u.cells.toList us off 0 k
            rw [← Array.foldl_toList, Array.toList_zipIdx]
            refine ⟨h0.1, ?_⟩
            have := h0.2 (by simpa using hus)
            simpa using this
          refine ih rest' _ _ cs (by simpa using hl) (fun j x y hx hy => hp (j + 1) x y (by simpa using hx) (by simpa using hy)) ⟨?_, fun j v' u' hv' hu' => ?_⟩ hf
          · rw [setRange_length (by omega)]
            simp only [Array.length_toList]
            exact hvl.trans (by simpa using ((hfold 0).1).symm)
          · rw [setRange_get (by omega)] at hv'
            rw [Array.getElem?_toList] at hu'
            have hu'' := hu'
            rw [show (Array.foldl (fun cs (x : Value × Nat) => match x with | (c, j) => cs.setIfInBounds (off + j) c) us u.cells.zipIdx) = (u.cells.zipIdx.foldl (fun cs (x : Value × Nat) => cs.setIfInBounds (off + x.2) x.1) us) from rfl, (hfold j).2] at hu''
            by_cases hj : off ≤ j ∧ j < off + cs0.length
            · rw [if_pos hj] at hv'
              rw [if_pos (by omega)] at hu''
              exact hrep.2 _ _ _ hv' hu''
            · rw [if_neg hj] at hv'
              rw [if_neg (by omega)] at hu''
              exact hr.2 j v' u' hv' (by rw [Array.getElem?_toList]; exact hu'')
        · cases hf
      · cases hf

theorem parts_rep {σ : St} {a : Act} {w : World} {e : Env} (h : RSt G σ a w e) (parts : Array (Nat × Operand)) :
    (parts.toList.map fun (i, x) => (i, σ.ev x)).length = (parts.map fun (i, x) => (i, a.eval x)).toList.length ∧
    ∀ (i : Nat) (x : Nat × V) (y : Nat × Value), (parts.toList.map fun (i, x) => (i, σ.ev x))[i]? = some x → (parts.map fun (i, x) => (i, a.eval x)).toList[i]? = some y → x.1 = y.1 ∧ RepF w e x.2 y.2 := by
  refine ⟨by simp, fun i x y hx hy => ?_⟩
  rw [List.getElem?_map] at hx
  rw [Array.toList_map, List.getElem?_map] at hy
  obtain ⟨p, hp, rfl⟩ := Option.map_eq_some_iff.1 hx
  rw [hp] at hy
  simp only [Option.map_some, Option.some.injEq] at hy
  subst hy
  exact ⟨rfl, h.ev _⟩

theorem run_zeroValue {t : TypeId} {i : TypeInfo} {v : Value} (hi : P.info? t = some i) (hz : i.zero = some v) (w : World) : (zeroValue t).run P w = .ok v w := by
  unfold zeroValue
  rw [Sem.run_bind, run_typeInfo' hi]
  simp only [Result.andThen, hz]
  rfl

theorem run_sizeOf' {t : TypeId} {i : TypeInfo} (hi : P.info? t = some i) (w : World) : (sizeOf t).run P w = .ok i.size w := by
  unfold sizeOf
  rw [Sem.run_bind, run_typeInfo' hi]
  rfl

theorem run_places (w : World) (fs : List Field) : ∀ (l : List (Nat × Nat)), (fs.mapM fun f => (P.info? f.type).map fun j => (f.offset, j.size)) = some l →
    (fs.mapM fun f => do pure (f.offset, ← sizeOf f.type) : Sem (List (Nat × Nat))).run P w = .ok l w := by
  induction fs with
  | nil => intro l h; simp at h; subst h; rfl
  | cons f fs ih =>
    intro l h
    simp only [List.mapM_cons, Option.bind_eq_bind, Option.bind_eq_some_iff, Option.pure_def, Option.some.injEq, Option.map_eq_some_iff] at h
    obtain ⟨x, ⟨i, hi, rfl⟩, l', hl', rfl⟩ := h
    simp only [List.mapM_cons]
    rw [Sem.run_bind, Sem.run_bind, run_sizeOf' hi]
    simp only [Result.andThen]
    rw [Sem.run_pure]
    simp only [Sem.run_bind]
    rw [ih l' hl']
    rfl

theorem op_build {o : Oper} {σ : St} {a : Act} {w : World} {e : Env} {k : V → St → Prop} (h : RSt G σ a w e) (t : TypeId) (parts : Array (Nat × Operand)) (ho : o.op = .build t parts) (hk : evOp P G o σ k) :
    OpDone P G o σ a w e k := by
  simp only [evOp, ho, evBuild] at hk
  obtain ⟨p1, p2⟩ := parts_rep h parts
  split at hk
  · rename_i pl z hpl hz
    split at hk
    · rename_i cs hf
      obtain ⟨i, v, hi, hzv, hr⟩ := zeroOf_some hz
      obtain ⟨us', hfill, hreps⟩ := fill_of_fillV _ _ z v.cells cs p1 p2 (hr w e) hf
      refine opDone_pure h (u := .agg us') ?_ hk ⟨.agg _ _ (by simpa using hreps.1) (fun i v u hv hu => (hreps.2 i v u hv (by rw [Array.getElem?_toList]; exact hu)).1), trivial⟩
      simp only [execOp, ho]
      refine run_value ?_
      unfold Instr.build
      rw [Sem.run_bind, run_zeroValue hi hzv]
      simp only [Result.andThen]
      unfold placesOf at hpl
      split at hpl
      · rename_i fs hu
        rw [Sem.run_bind, run_underlying' hu]
        simp only [Result.andThen]
        obtain ⟨l, hl, rfl⟩ := Option.map_eq_some_iff.1 hpl
        have hp := run_places (P := P) w fs.toList l hl
        rw [Sem.run_bind]
        have e1 : (fs.mapM (fun f => do pure (f.offset, ← sizeOf f.type)) : Sem (Array (Nat × Nat))).run P w = .ok l.toArray w := by
          rw [Array.mapM_eq_mapM_toList, map_eq_pure_bind, Sem.run_bind, hp]
          rfl
        rw [e1]
        simp only [Result.andThen, List.getElem?_toArray, hfill]
        rfl
      · rename_i n el hu
        rw [Sem.run_bind, run_underlying' hu]
        simp only [Result.andThen]
        obtain ⟨j, hj, rfl⟩ := Option.map_eq_some_iff.1 hpl
        rw [Sem.run_bind, run_sizeOf' hj]
        simp only [Result.andThen, hfill]
        rfl
      · cases hpl
    · exact hk.elim
  · exact hk.elim

/-! ### a new block that is no one's to write -/

/-- A block of cells is laid whose first m cells are read-only from now on, the others spare places of class c. -/
def Env.lay (e : Env) (r m n c : Nat) : Env :=
  { e with RO := fun b o => e.RO b o ∨ (b = r ∧ o < m), Sp := fun c' b o => e.Sp c' b o ∨ (c' = c ∧ b = r ∧ m ≤ o ∧ o < n) }

theorem RHeap.lay {H : Heap} {w : World} {e : Env} (hR : RHeap G H w e) (t : TypeId) (cs : Array Value) (m c : Nat) (hm : m ≤ cs.size) :
    Mono w e (w.alloc (.cells cs t)) (e.lay w.heap.size m cs.size c) ∧ RHeap G H (w.alloc (.cells cs t)) (e.lay w.heap.size m cs.size c) ∧
    Ext H w e H (w.alloc (.cells cs t)) (e.lay w.heap.size m cs.size c) := by
  have hnew : ∀ j, j < cs.size → (cel (w.alloc (.cells cs t)) w.heap.size j).isSome ∧ fro (w.alloc (.cells cs t)) w.heap.size j = false := by
    intro j hj
    unfold cel fro World.cell? World.frozen?
    rw [World.alloc_heap_new]
    simp [hj]
  have mo : Mono w e (w.alloc (.cells cs t)) (e.lay w.heap.size m cs.size c) :=
    ⟨Nat.le_refl _, fun _ _ => rfl, fun b i h => ⟨.inl h, cel_alloc w _ (lt_of_cel (hR.ro b i h)) i⟩, fun _ _ _ h => .inl h⟩
  refine ⟨mo, ⟨hR.len, fun id b hb => (hR.blk id b hb).mono mo (Below.heap_alloc _ _ _ (hR.blk id b hb).lt), hR.inj, ?_, ?_, ?_, ?_, fun g cs h => (hR.glob g cs h).mono mo⟩,
    ⟨rfl, rfl, rfl, by simp, Nat.le_refl _, fun _ _ => rfl, ?_, fun _ _ h => h, fun _ _ h => .inl h, ?_, ?_, fun b i hb _ _ => ⟨cel_alloc w _ hb i, fro_alloc w _ hb i⟩, fun b hb _ _ => Below.heap_alloc _ _ _ hb⟩⟩
  · rintro b i (h | ⟨rfl, h⟩)
    · have h1 := hR.ro b i h
      rw [cel_alloc w _ (lt_of_cel h1)]
      exact h1
    · exact (hnew i (by omega)).1
  · rintro id i hl (h | ⟨h, _⟩)
    · exact hR.roOwn id i hl h
    · have := hR.liveLt hl
      change e.ρ id = w.heap.size at h
      omega
  · rintro c' b i (h | ⟨rfl, rfl, h1, h2⟩)
    · obtain ⟨h1, h2, h3, h4⟩ := hR.sp c' b i h
      have hlt := lt_of_cel h1
      refine ⟨by rw [cel_alloc w _ hlt]; exact h1, by rw [fro_alloc w _ hlt]; exact h2, ?_, h4⟩
      rintro (h5 | ⟨h5, _⟩)
      · exact h3 h5
      · omega
    · refine ⟨(hnew i h2).1, (hnew i h2).2, ?_, fun id hl he => ?_⟩
      · rintro (h5 | ⟨_, h5⟩)
        · have := lt_of_cel (hR.ro _ _ h5); omega
        · omega
      · have := hR.liveLt hl
        change e.ρ id = w.heap.size at he
        omega
  · rintro c1 c2 b i (h1 | ⟨rfl, rfl, _, _⟩) (h2 | ⟨rfl, hb, _, _⟩)
    · exact hR.spd c1 c2 b i h1 h2
    · have := lt_of_cel (hR.sp _ _ _ h1).1; omega
    · have := lt_of_cel (hR.sp _ _ _ h2).1; omega
    · rfl
  · intro id hid hl
    have := live_lt hl
    omega
  · rintro b i (h | ⟨rfl, _⟩)
    · exact .inl h
    · exact .inr (.inl (Nat.le_refl _))
  · rintro c' b i (h | ⟨_, rfl, _, _⟩)
    · exact .inr ⟨c', h⟩
    · exact .inl (Nat.le_refl _)

theorem RSt.lay {σ : St} {a : Act} {w : World} {e : Env} (h : RSt G σ a w e) (t : TypeId) (cs : Array Value) (m c : Nat) (hm : m ≤ cs.size) :
    RSt G σ a (w.alloc (.cells cs t)) (e.lay w.heap.size m cs.size c) :=
  ⟨(h.heap.lay t cs m c hm).2.1, h.tmps.mono (h.heap.lay t cs m c hm).1, h.defs, h.defsN, h.cur⟩

theorem chunks_length (n : Nat) : ∀ (m : Nat) (cs : List V), (chunks n m cs).length = m := by
  intro m
  induction m with
  | zero => intro cs; rfl
  | succ m ih => intro cs; simp [chunks, ih]

theorem chunks_get (n : Nat) : ∀ (m : Nat) (cs : List V) (i : Nat), i < m → (chunks n m cs)[i]? = some ((cs.drop (i * n)).take n) := by
  intro m
  induction m with
  | zero => intro cs i h; omega
  | succ m ih =>
    intro cs i h
    cases i with
    | zero => simp [chunks]
    | succ i =>
      simp only [chunks, List.getElem?_cons_succ]
      rw [ih _ i (by omega), List.drop_drop]
      congr 3
      rw [Nat.succ_mul, Nat.add_comm]

theorem chunks_es (n : Nat) (m : Nat) (cs : List V) (h : m * n ≤ cs.length) : ∀ r ∈ chunks n m cs, r.length = n := by
  intro r hr
  obtain ⟨i, hi, rfl⟩ := List.getElem_of_mem hr
  rw [chunks_length] at hi
  have := chunks_get n m cs i hi
  rw [List.getElem?_eq_getElem (by rw [chunks_length]; exact hi), Option.some.injEq] at this
  rw [this, List.length_take, List.length_drop, Nat.min_eq_left]
  have : (i + 1) * n ≤ m * n := Nat.mul_le_mul_right n hi
  rw [Nat.succ_mul] at this
  omega

theorem at2_chunks {n m : Nat} {cs : List V} {i j : Nat} {v : V} (h : at2 (chunks n m cs) i j = some v) : i < m ∧ j < n ∧ cs[i * n + j]? = some v := by
  unfold at2 at h
  obtain ⟨r, hr, hj⟩ := Option.bind_eq_some_iff.1 h
  have hi : i < m := by
    have := (List.getElem?_eq_some_iff.1 hr).1
    rwa [chunks_length] at this
  rw [chunks_get n m cs i hi, Option.some.injEq] at hr
  subst hr
  rw [List.getElem?_take] at hj
  split at hj
  · rename_i hjn
    rw [List.getElem?_drop] at hj
    exact ⟨hi, hjn, hj⟩
  · cases hj

theorem replicate_get (z : List V) (len : Nat) : ∀ k, k < len * z.length → (List.replicate len z).flatten[k]? = z[k % z.length]? := by
  induction len with
  | zero => intro k h; simp at h
  | succ len ih =>
    intro k h
    rw [List.replicate_succ, List.flatten_cons]
    by_cases hk : k < z.length
    · rw [List.getElem?_append_left hk, Nat.mod_eq_of_lt hk]
    · have hm : k % z.length = (k - z.length) % z.length := Nat.mod_eq_sub_mod (by omega)
      rw [List.getElem?_append_right (by omega), ih _ (by rw [Nat.succ_mul] at h; omega), hm]

theorem Rep.toPure {w : World} {e : Env} {v : V} {u : Value} (h : Rep w e v u) (hd : v.dataCell = true) : Rep w e.pure v u := by
  cases h with
  | im => exact .im _
  | str l => exact .str l
  | nil es fl => exact .nil es fl
  | nul es fl a => exact .nul es fl a
  | dat es rows fl b o cap u hes hcap ht h1 h2 => exact .dat es rows fl b o cap u hes hcap ht h1 h2
  | _ => simp [V.dataCell] at hd

theorem op_buildSlice {o : Oper} {σ : St} {a : Act} {w : World} {e : Env} {k : V → St → Prop} (h : RSt G σ a w e) (t : TypeId) (len : Nat) (parts : Array (Nat × Operand)) (ho : o.op = .buildSlice t len parts)
    (hk : evOp P G o σ k) : OpDone P G o σ a w e k := by
  simp only [evOp, ho, evBuildSlice] at hk
  obtain ⟨p1, p2⟩ := parts_rep h parts
  split at hk
  · rename_i el n by_ hsl
    split at hk
    · rename_i z hz
      obtain ⟨hzn, hn1, hbig, hk⟩ := hk
      split at hk
      · rename_i cs hf
        obtain ⟨hdata, hk⟩ := hk
        obtain ⟨i, v, hi, hzv, hr⟩ := zeroOf_some hz
        have hul : P.underlying t = some (.slice el) ∧ i.size = n := by
          unfold slOf at hsl
          split at hsl
          · rename_i el' hu
            obtain ⟨j, hj, he⟩ := Option.map_eq_some_iff.1 hsl
            simp only [Prod.mk.injEq] at he
            obtain ⟨rfl, rfl, _⟩ := he
            rw [hi] at hj
            simp only [Option.some.injEq] at hj
            exact ⟨hu, by rw [hj]⟩
          · cases hsl
        obtain ⟨hu, hsize⟩ := hul
        -- the zero cells
        let zs : Array Value := if len * n = 0 then #[] else v.cells
        have hvc : v.cells.size = n := by have := (hr w e).1; simp at this; omega
        have hz0 : Reps w e (List.replicate len z).flatten ((Array.range (len * n)).map (fun i => zs[i % zs.size]!)).toList := by
          refine ⟨by simp [hzn], fun j x y hx hy => ?_⟩
          have hj : j < len * n := by
            have := (List.getElem?_eq_some_iff.1 hx).1
            simpa [hzn] using this
          rw [replicate_get z len j (by rw [hzn]; exact hj)] at hx
          have hpos : len * n ≠ 0 := by omega
          have hzs : zs = v.cells := by simp [zs, hpos]
          rw [Array.getElem?_toList] at hy
          simp only [Array.getElem?_map, Array.getElem?_range, hj, if_true, Option.map_some, Option.some.injEq] at hy
          rw [hzs, hvc] at hy
          have hjm : j % n < v.cells.size := by rw [hvc]; exact Nat.mod_lt _ (by omega)
          refine (hr w e).2 (j % n) x y (by rw [← hzn]; exact hx) ?_
          rw [Array.getElem?_toList, Array.getElem?_eq_getElem hjm, ← hy, getElem!_pos v.cells (j % n) hjm]
        obtain ⟨us', hfill, hreps⟩ := fill_of_fillV _ _ _ _ cs p1 p2 hz0 hf
        have hcl : cs.length = us'.size := by simpa using hreps.1
        have hus : us'.size = len * n := by
          have e1 : ∀ (parts : List (Nat × V)) (vs cs : List V), fillV (fun i => some (i * n, n)) vs parts = some cs → cs.length = vs.length := by
            intro parts
            induction parts with
            | nil => intro vs cs h; simp only [fillV, Option.some.injEq] at h; rw [h]
            | cons x rest ih =>
              intro vs cs h
              obtain ⟨i, v⟩ := x
              simp only [fillV] at h
              split at h
              · split at h
                · rename_i hpl hcs hsz
                  simp only [Option.some.injEq, Prod.mk.injEq] at hpl
                  obtain ⟨rfl, rfl⟩ := hpl
                  rw [ih _ _ h, setRange_length (by omega)]
                · cases h
              · cases h
          have := e1 _ _ _ hf
          simp [hzn] at this
          omega
        obtain ⟨mo, hH, hx⟩ := h.heap.lay el us' us'.size 0 (Nat.le_refl _)
        refine ⟨.slice (some ⟨w.heap.size, 0, none⟩) len len, _, _, σ, _, .inl ?_, hk, rfl, h.lay el us' us'.size 0 (Nat.le_refl _), ⟨?_, trivial⟩, hx⟩
        · simp only [execOp, ho]
          refine run_value ?_
          unfold Instr.buildSlice
          rw [Sem.run_bind, run_underlying' hu]
          simp only [Result.andThen]
          rw [Sem.run_bind, run_sizeOf' hi, hsize]
          simp only [Result.andThen]
          rw [if_neg (by omega)]
          by_cases h0 : len * n = 0
          · have hzs : zs = #[] := by simp [zs, h0]
            rw [hzs] at hfill
            rw [if_pos h0]
            simp only [Sem.run_bind, Sem.run_pure, Result.andThen]
            rw [hfill]
            rfl
          · have hzs : zs = v.cells := by simp [zs, h0]
            rw [hzs] at hfill
            rw [if_neg h0]
            simp only [Sem.run_bind, Sem.run_pure, Result.andThen, run_zeroValue hi hzv]
            rw [hfill]
            rfl
        · have hlen := chunks_length n len cs
          have := Rep.dat (w := w.alloc (.cells us' el)) (e := e.lay w.heap.size us'.size us'.size 0) n (chunks n len cs) .tight w.heap.size 0 len
            (fun i j => us'.getD (i * n + j) undef) (chunks_es n len cs (by rw [hcl, hus]; exact Nat.le_refl _)) (by rw [hlen]; exact Nat.le_refl _) (fun _ => hlen.symm)
            (fun i j v hv => by
              obtain ⟨h1, h2, h3⟩ := at2_chunks hv
              have h4 : i * n + j < us'.size := by rw [← hcl]; exact (List.getElem?_eq_some_iff.1 h3).1
              refine ⟨?_, .inr ⟨rfl, by omega⟩⟩
              unfold cel World.cell?
              rw [World.alloc_heap_new]
              simp [h4])
            (fun i j v hv => by
              obtain ⟨h1, h2, h3⟩ := at2_chunks hv
              have h4 : i * n + j < us'.size := by rw [← hcl]; exact (List.getElem?_eq_some_iff.1 h3).1
              have hr := ((hreps.2 _ v _ h3 (by rw [Array.getElem?_toList, Array.getElem?_eq_getElem h4])).1.mono mo).toPure (List.all_eq_true.1 hdata v (List.mem_of_getElem? h3))
              simpa [h4] using hr)
          rw [hlen] at this
          exact this
      · exact hk.elim
    · exact hk.elim
  · exact hk.elim

end Go.Abs

/-! Sound5 -/
/- Arithmetic, comparisons, parts. -/
namespace Go.Abs
open Go.RowKit

variable {P : Program} {G : Nat → Option (List V)}

theorem rep_int {w : World} {e : Env} {k : IntKind} {n : Int} {u : Value} (h : RepF w e (.im (.int k n)) u) : u = .int k n := by
  cases h.1 with
  | im => rfl
theorem rep_im {w : World} {e : Env} {v : Value} {u : Value} (h : RepF w e (.im v) u) : u = v := by
  cases h.1 with
  | im => rfl
theorem rep_str {w : World} {e : Env} {l : List UInt8} {u : Value} (h : RepF w e (.str l) u) : u = .string ⟨⟨l⟩⟩ := by
  cases h.1 with
  | str => rfl

theorem repF_im (w : World) (e : Env) (v : Value) : RepF w e (.im v) v := ⟨.im v, trivial⟩
theorem repF_str (w : World) (e : Env) (l : List UInt8) : RepF w e (.str l) (.string ⟨⟨l⟩⟩) := ⟨.str l, trivial⟩

theorem ba_toList (l : List UInt8) : (⟨⟨l⟩⟩ : ByteArray).toList = l := ByteArray.toList_mk _

theorem evInt_run {op : BinOp} {k : IntKind} {a b : Int} {K : V → Prop} (t : TypeId) (hop : op ≠ .shl ∧ op ≠ .shr) (h : evInt op k a b K) (w : World) :
    ∃ u, K (.im u) ∧ (binOp op t (.int k a) (.int k b)).run P w = .ok u w := by
  cases op <;> simp only [evInt] at h <;> first
    | exact h.elim
    | (simp at hop; done)
    | skip
  case quo => exact ⟨_, h.2, by simp [binOp, Op.intDiv, h.1]⟩
  case rem => exact ⟨_, h.2, by simp [binOp, Op.intDiv, h.1]⟩
  case eql => exact ⟨_, h, by simp [binOp, Op.intCmp]; rfl⟩
  case neq => exact ⟨_, h, by simp [binOp, Op.intCmp, bne]; rfl⟩
  all_goals exact ⟨_, h, by simp [binOp, Op.intArith, Op.intBits, Op.intCmp]⟩

theorem evStr_run {op : BinOp} {a b : List UInt8} {K : V → Prop} (t : TypeId) (h : evStr op a b K) (w : World) :
    ∃ u v, K v ∧ (binOp op t (.string ⟨⟨a⟩⟩) (.string ⟨⟨b⟩⟩)).run P w = .ok u w ∧ ∀ e, RepF w e v u := by
  have hs : ∀ l : List UInt8, (⟨⟨l⟩⟩ : ByteArray).size = l.length := fun l => rfl
  have heq : (a == b) = decide (a = b) := by rw [Bool.eq_iff_iff]; simp
  cases op <;> simp only [evStr] at h <;> first
    | exact h.elim
    | skip
  case add =>
    obtain ⟨h1, h2⟩ := h
    refine ⟨.string ((⟨⟨a⟩⟩ : ByteArray) ++ ⟨⟨b⟩⟩), _, h2, ?_, fun e => ?_⟩
    · simp only [binOp, Op.stringOp, hs]
      rw [if_neg (by omega)]
      rfl
    · have : ((⟨⟨a⟩⟩ : ByteArray) ++ ⟨⟨b⟩⟩) = ⟨⟨a ++ b⟩⟩ := by
        apply ByteArray.ext
        simp
      rw [this]
      exact repF_str w e _
  case neq => exact ⟨_, _, h, by simp only [binOp, Op.stringOp, ba_toList, heq]; rfl, fun e => by rw [show (!decide (a = b)) = decide (a ≠ b) by simp]; exact repF_im w e _⟩
  all_goals exact ⟨_, _, h, by simp only [binOp, Op.stringOp, ba_toList, heq]; rfl, fun e => repF_im w e _⟩

end Go.Abs

/-! Eq -/
/- '==' on structs and arrays, cell by cell. -/
namespace Go.Abs
open Go.RowKit

variable {P : Program} {G : Nat → Option (List V)}

def valEq : CK → Value → Value → Option Bool
  | .i, .int k a, .int k' b => if k = k' then some (a == b) else none
  | .b, .bool a, .bool b => some (a == b)
  | .s, .string a, .string b => some (a.toList == b.toList)
  | _, _, _ => none
def valsEq : List CK → List Value → List Value → Option Bool
  | [], [], [] => some true
  | k :: ks, x :: xs, y :: ys => match valEq k x y, valsEq ks xs ys with
    | some a, some b => some (a && b)
    | _, _ => none
  | _, _, _ => none

theorem valsEq_of {w : World} {e : Env} : ∀ (ks : List CK) (xs ys : List V) (us vs : List Value) (b : Bool), xs.length = us.length → ys.length = vs.length →
    (∀ (i : Nat) (v : V) (u : Value), xs[i]? = some v → us[i]? = some u → Rep w e v u) → (∀ (i : Nat) (v : V) (u : Value), ys[i]? = some v → vs[i]? = some u → Rep w e v u) →
    cellsEq ks xs ys = some b → valsEq ks us vs = some b := by
  intro ks
  induction ks with
  | nil =>
    intro xs ys us vs b h1 h2 _ _ h
    match xs, ys, h with
    | [], [], h =>
      match us, vs, h1, h2 with
      | [], [], _, _ => exact h
  | cons k ks ih =>
    intro xs ys us vs b h1 h2 hx hy h
    match xs, ys, h with
    | x :: xs, y :: ys, h =>
      match us, vs, h1, h2 with
      | u :: us, v :: vs, h1, h2 =>
        have r1 := hx 0 x u rfl rfl
        have r2 := hy 0 y v rfl rfl
        simp only [cellsEq] at h
        split at h
        · rename_i a b' ha hb
          have hb2 := ih xs ys us vs b' (by simpa using h1) (by simpa using h2) (fun i v u hv hu => hx (i + 1) v u (by simpa using hv) (by simpa using hu))
            (fun i v u hv hu => hy (i + 1) v u (by simpa using hv) (by simpa using hu)) hb
          have hbd : ∀ a b : Int, (a == b) = decide (a = b) := fun a b => by rw [Bool.eq_iff_iff]; simp
          have hbl : ∀ a b : List UInt8, (a == b) = decide (a = b) := fun a b => by rw [Bool.eq_iff_iff]; simp
          have ha2 : valEq k u v = some a := by
            unfold cellEq at ha
            split at ha
            · cases r1; cases r2
              simp only [valEq, hbd]
              exact ha
            · cases r1; cases r2
              exact ha
            · cases r1; cases r2
              simp only [valEq, ba_toList, hbl]
              exact ha
            · cases ha
          simp only [valsEq, ha2, hb2]
          exact h
        · cases h

theorem valsEq_length : ∀ (ks : List CK) (a b : List Value) (r : Bool), valsEq ks a b = some r → a.length = ks.length ∧ b.length = ks.length := by
  intro ks
  induction ks with
  | nil => intro a b r h; match a, b, h with
    | [], [], _ => exact ⟨rfl, rfl⟩
  | cons k ks ih => intro a b r h; match a, b, h with
    | x :: a, y :: b, h =>
      simp only [valsEq] at h
      split at h
      · rename_i p q hp hq
        obtain ⟨h1, h2⟩ := ih a b q hq
        exact ⟨by simp [h1], by simp [h2]⟩
      · cases h

theorem valsEq_append : ∀ (ks ks' : List CK) (a b : List Value) (r : Bool), valsEq (ks ++ ks') a b = some r →
    ∃ r1 r2, valsEq ks (a.take ks.length) (b.take ks.length) = some r1 ∧ valsEq ks' (a.drop ks.length) (b.drop ks.length) = some r2 ∧ r = (r1 && r2) := by
  intro ks
  induction ks with
  | nil => intro ks' a b r h; exact ⟨true, r, rfl, h, by simp⟩
  | cons k ks ih =>
    intro ks' a b r h
    match a, b, h with
    | x :: a, y :: b, h =>
      simp only [List.cons_append, valsEq] at h
      split at h
      · rename_i p q hp hq
        obtain ⟨r1, r2, e1, e2, rfl⟩ := ih ks' a b q hq
        simp only [Option.some.injEq] at h
        exact ⟨p && r1, r2, by simp [valsEq, hp, e1], by simpa using e2, by rw [← h, Bool.and_assoc]⟩
      · cases h

/-- The value of a type whose cells these are. -/
def mkV (P : Program) (t : TypeId) (us : List Value) : Value :=
  match P.underlying t with
  | some (.struct _) | some (.array ..) => .agg us.toArray
  | _ => us.getD 0 undef

/-- Is it a struct or an array? -/
def aggD : Option TypeDesc → Bool
  | some (.struct _) | some (.array ..) => true
  | _ => false

theorem run_part {t : TypeId} {i : TypeInfo} (hi : P.info? t = some i) (hu : (P.underlying t).isSome) (xs : Array Value) (off : Nat) (hl : off + i.size ≤ xs.size) (h1 : aggD (P.underlying t) = false → i.size = 1) (w : World) :
    (part t xs off).run P w = .ok (mkV P t ((xs.toList.drop off).take i.size)) w := by
  obtain ⟨d, hd⟩ := Option.isSome_iff_exists.1 hu
  unfold part mkV
  have hagg : (isAgg t).run P w = .ok (aggD (some d)) w := by
    unfold isAgg
    rw [Sem.run_bind, run_underlying' hd]
    cases d <;> rfl
  rw [Sem.run_bind, hagg, hd]
  simp only [Result.andThen]
  cases d
  case struct fs =>
    simp only [aggD, if_true]
    rw [Sem.run_bind, run_sizeOf' hi]
    simp only [Result.andThen]
    have hx : xs.extract off (off + i.size) = (List.take i.size (List.drop off xs.toList)).toArray := by
      apply Array.toList_inj.1
      rw [Array.toList_extract]
      simp [List.extract]
    rw [hx]
    rfl
  case array n el =>
    simp only [aggD, if_true]
    rw [Sem.run_bind, run_sizeOf' hi]
    simp only [Result.andThen]
    have hx : xs.extract off (off + i.size) = (List.take i.size (List.drop off xs.toList)).toArray := by
      apply Array.toList_inj.1
      rw [Array.toList_extract]
      simp [List.extract]
    rw [hx]
    rfl
  all_goals
    have h1' := h1 (by rw [hd]; rfl)
    have hlt : off < xs.size := by omega
    simp only [aggD, Bool.false_eq_true, if_false, Array.getElem?_eq_getElem hlt, h1']
    have : ((xs.toList.drop off).take 1).getD 0 undef = xs[off] := by
      simp [hlt]
    rw [this]
    rfl


theorem mkV_plain {t : TypeId} {d : TypeDesc} (hd : P.underlying t = some d) (hp : aggD (some d) = false) (u : Value) : mkV P t [u] = u := by
  unfold mkV
  rw [hd]
  cases d <;> first | rfl | simp [aggD] at hp

/-- What is asked of the parts. -/
def EqOk (P : Program) (d : Nat) (t : TypeId) (ks : List CK) : Prop :=
  ∀ (us vs : List Value) (b : Bool) (w : World), valsEq ks us vs = some b → (Op.equalIn d t (mkV P t us) (mkV P t vs)).run P w = .ok b w

theorem run_eqItems {d : Nat} {el : TypeId} {kk : List CK} {i : TypeInfo} (hi : P.info? el = some i) (hu : (P.underlying el).isSome) (hsz : i.size = kk.length) (hm0 : 1 ≤ kk.length) (h1 : aggD (P.underlying el) = false → kk.length = 1)
    (IH : EqOk P d el kk) (us vs : Array Value) (n : Nat) : ∀ (s : Nat) (b : Bool) (w : World), valsEq (List.replicate n kk).flatten (us.toList.drop (s * kk.length)) (vs.toList.drop (s * kk.length)) = some b →
    (Op.eqItems d el kk.length us vs (List.range' s n)).run P w = .ok b w := by
  induction n with
  | zero =>
    intro s b w h
    obtain ⟨h2, h3⟩ := valsEq_length _ _ _ _ h
    simp only [List.replicate_zero, List.flatten_nil, List.length_nil] at h2 h3 h
    rw [List.eq_nil_of_length_eq_zero h2, List.eq_nil_of_length_eq_zero h3] at h
    simp only [valsEq, Option.some.injEq] at h
    subst h
    rfl
  | succ n ih =>
    intro s b w h
    obtain ⟨hl1, hl2⟩ := valsEq_length _ _ _ _ h
    rw [List.replicate_succ, List.flatten_cons] at h hl1 hl2
    obtain ⟨r1, r2, e1, e2, rfl⟩ := valsEq_append _ _ _ _ _ h
    simp only [List.length_drop, List.length_append, Array.length_toList] at hl1 hl2
    rw [List.drop_drop, List.drop_drop, show s * kk.length + kk.length = (s + 1) * kk.length by rw [Nat.succ_mul]] at e2
    have hr := ih (s + 1) r2
    rw [List.range'_succ]
    simp only [Op.eqItems]
    have hle : ∀ xs : Array Value, xs.size - s * kk.length = kk.length + (List.replicate n kk).flatten.length → 0 < kk.length → s * kk.length + i.size ≤ xs.size := fun xs h h0 => by omega
    have hp : ∀ xs : Array Value, xs.size - s * kk.length = kk.length + (List.replicate n kk).flatten.length → (part el xs (s * kk.length)).run P w = .ok (mkV P el ((xs.toList.drop (s * kk.length)).take kk.length)) w := by
      intro xs hx
      have := run_part hi hu xs (s * kk.length) (hle xs hx (by omega)) (fun h => by rw [hsz]; exact h1 h) w
      rwa [hsz] at this
    rw [Sem.run_bind, hp us hl1]
    simp only [Result.andThen]
    rw [Sem.run_bind, hp vs hl2]
    simp only [Result.andThen]
    rw [Sem.run_bind, IH _ _ r1 w e1]
    simp only [Result.andThen]
    cases r1
    · simp
    · simpa using hr w e2

theorem fold_none (F : TypeId → Option (List CK)) (fs : List Field) : fs.foldl (fun acc f => match acc, F f.type with
          | some n, some m => if f.name ≠ "_" ∧ f.offset = n.length ∧ 1 ≤ m.length ∧ (P.info? f.type).map (·.size) = some m.length then some (n ++ m) else none
          | _, _ => none) none = none := by
  induction fs with
  | nil => rfl
  | cons f fs ih => simpa using ih

theorem run_eqFields' {d : Nat} (F : TypeId → Option (List CK)) (IH : ∀ t ks, F t = some ks → EqOk P d t ks ∧ (P.underlying t).isSome ∧ (aggD (P.underlying t) = false → ks.length = 1)) (us vs : Array Value) (fs : List Field) :
    ∀ (ks0 ks : List CK), fs.foldl (fun acc f => match acc, F f.type with
          | some n, some m => if f.name ≠ "_" ∧ f.offset = n.length ∧ 1 ≤ m.length ∧ (P.info? f.type).map (·.size) = some m.length then some (n ++ m) else none
          | _, _ => none) (some ks0) = some ks →
    ∃ ks1, ks = ks0 ++ ks1 ∧ ∀ (b : Bool) (w : World), valsEq ks1 (us.toList.drop ks0.length) (vs.toList.drop ks0.length) = some b → (Op.eqFields d us vs fs).run P w = .ok b w := by
  induction fs with
  | nil =>
    intro ks0 ks h
    simp only [List.foldl_nil, Option.some.injEq] at h
    refine ⟨[], by simp [h], fun b w he => ?_⟩
    obtain ⟨h2, h3⟩ := valsEq_length _ _ _ _ he
    rw [List.eq_nil_of_length_eq_zero h2, List.eq_nil_of_length_eq_zero h3] at he
    simp only [valsEq, Option.some.injEq] at he
    subst he
    rfl
  | cons f fs ih =>
    intro ks0 ks h
    rw [List.foldl_cons] at h
    cases hF : F f.type with
    | none =>
      rw [hF] at h
      simp only at h
      rw [fold_none] at h
      cases h
    | some m =>
      rw [hF] at h
      simp only at h
      by_cases hc : f.name ≠ "_" ∧ f.offset = ks0.length ∧ 1 ≤ m.length ∧ (P.info? f.type).map (·.size) = some m.length
      · rw [if_pos hc] at h
        obtain ⟨hn, hoff, hm0, hs⟩ := hc
        obtain ⟨i, hi, hsz⟩ := Option.map_eq_some_iff.1 hs
        obtain ⟨ks1, rfl, hrest⟩ := ih _ _ h
        obtain ⟨hok, hu, h1⟩ := IH _ _ hF
        refine ⟨m ++ ks1, by simp, fun b w he => ?_⟩
        obtain ⟨hl1, hl2⟩ := valsEq_length _ _ _ _ he
        obtain ⟨r1, r2, e1, e2, rfl⟩ := valsEq_append _ _ _ _ _ he
        simp only [List.length_drop, List.length_append, Array.length_toList] at hl1 hl2
        rw [List.drop_drop, List.drop_drop, ← List.length_append] at e2
        have hr := hrest r2
        simp only [Op.eqFields]
        rw [if_pos hn, hoff]
        have hp : ∀ xs : Array Value, xs.size - ks0.length = m.length + ks1.length → (part f.type xs ks0.length).run P w = .ok (mkV P f.type ((xs.toList.drop ks0.length).take m.length)) w := by
          intro xs hx
          have := run_part hi hu xs ks0.length (by omega) (fun h => by rw [hsz]; exact h1 h) w
          rwa [hsz] at this
        rw [Sem.run_bind, hp us hl1]
        simp only [Result.andThen]
        rw [Sem.run_bind, hp vs hl2]
        simp only [Result.andThen]
        rw [Sem.run_bind, hok _ _ r1 w e1]
        simp only [Result.andThen]
        cases r1
        · simp
        · simpa using hr w e2
      · rw [if_neg hc, fold_none] at h
        cases h

theorem flatEq_under {m : Nat} {t : TypeId} {ks : List CK} (h : flatEq P m t = some ks) : (P.underlying t).isSome := by
  cases m with
  | zero => simp [flatEq] at h
  | succ m =>
    unfold flatEq at h
    cases hd : P.underlying t with
    | none => simp [hd] at h
    | some _ => rfl

theorem one_of_plain {m : Nat} {t : TypeId} {ks : List CK} (h : flatEq P m t = some ks) (hh : aggD (P.underlying t) = false) : ks.length = 1 := by
  cases m with
  | zero => simp [flatEq] at h
  | succ m =>
    obtain ⟨td, htd⟩ := Option.isSome_iff_exists.1 (flatEq_under h)
    unfold flatEq at h
    rw [htd] at h hh
    cases td <;> simp [aggD] at hh h <;> rw [← h] <;> rfl

theorem run_flatEq (m : Nat) : ∀ (d : Nat) (t : TypeId) (ks : List CK), flatEq P m t = some ks → ∀ (us vs : List Value) (b : Bool) (w : World), valsEq ks us vs = some b →
    (Op.equalIn (d + m) t (mkV P t us) (mkV P t vs)).run P w = .ok b w ∧ (aggD (P.underlying t) = false → ks.length = 1) := by
  induction m with
  | zero => intro d t n h; simp [flatEq] at h
  | succ m ih =>
    intro d t ks h us vs b w he
    obtain ⟨hu, hv⟩ := valsEq_length _ _ _ _ he
    have plain : ∀ k, ks = [k] → ∃ u v, us = [u] ∧ vs = [v] ∧ valEq k u v = some b := by
      intro k h1
      subst h1
      match us, hu, vs, hv with
      | [u], _, [v], _ =>
        refine ⟨u, v, rfl, rfl, ?_⟩
        simp only [valsEq] at he
        split at he
        · rename_i a b' ha hb
          simp only [Option.some.injEq] at hb he
          rw [ha, ← he, ← hb, Bool.and_true]
        · cases he
    unfold flatEq at h
    cases hd : P.underlying t with
    | none => simp [hd] at h
    | some td =>
      rw [hd] at h
      cases td <;> simp only [Option.some.injEq, reduceCtorEq] at h
      case bool =>
        obtain ⟨u, v, rfl, rfl, hval⟩ := plain _ h.symm
        rw [mkV_plain hd rfl, mkV_plain hd rfl]
        cases u <;> cases v <;> simp only [valEq, Option.some.injEq, reduceCtorEq] at hval
        exact ⟨hval ▸ run_equalIn_bool' w (d + m) t _ _ hd, fun _ => by rw [← h]; rfl⟩
      case int k =>
        obtain ⟨u, v, rfl, rfl, hval⟩ := plain _ h.symm
        rw [mkV_plain hd rfl, mkV_plain hd rfl]
        cases u <;> cases v <;> simp only [valEq, reduceCtorEq] at hval
        split at hval
        · rename_i hk
          simp only [Option.some.injEq] at hval
          subst hk
          exact ⟨hval ▸ run_equalIn_int w (d + m) t _ _ _ _ hd, fun _ => by rw [← h]; rfl⟩
        · cases hval
      case string =>
        obtain ⟨u, v, rfl, rfl, hval⟩ := plain _ h.symm
        rw [mkV_plain hd rfl, mkV_plain hd rfl]
        cases u <;> cases v <;> simp only [valEq, Option.some.injEq, reduceCtorEq] at hval
        exact ⟨hval ▸ run_equalIn_string w (d + m) t _ _ hd, fun _ => by rw [← h]; rfl⟩
      case array k el =>
        refine ⟨?_, fun h => by simp [aggD] at h⟩
        obtain ⟨kk, hkk, h⟩ := Option.bind_eq_some_iff.1 h
        split at h
        · rename_i hsz
          obtain ⟨hm0, hsz⟩ := hsz
          obtain ⟨i, hi, hsz⟩ := Option.map_eq_some_iff.1 hsz
          simp only [Option.some.injEq] at h
          subst h
          have e1 : mkV P t us = .agg us.toArray := by simp [mkV, hd]
          have e2 : mkV P t vs = .agg vs.toArray := by simp [mkV, hd]
          rw [e1, e2, show d + (m + 1) = d + m + 1 from rfl, run_equalIn_array w (d + m) _ _ hd hi]
          have hco : P.cellsOf el = kk.length := by
            unfold Program.cellsOf; rw [hi]; exact hsz
          rw [hco]
          have hih := fun us vs b w he => (ih d el kk hkk us vs b w he).1
          have h1 := fun hh => one_of_plain hkk hh
          have := run_eqItems hi (flatEq_under hkk) hsz hm0 h1 hih us.toArray vs.toArray k 0 b w (by simpa using he)
          rw [List.range_eq_range']
          exact this
        · cases h
      case struct fs =>
        refine ⟨?_, fun h => by simp [aggD] at h⟩
        split at h
        · cases h
        · rename_i hst
          have e1 : mkV P t us = .agg us.toArray := by simp [mkV, hd]
          have e2 : mkV P t vs = .agg vs.toArray := by simp [mkV, hd]
          have hfs : P.fieldsOf t = fs := by simp [Program.fieldsOf, hd]
          rw [e1, e2, show d + (m + 1) = d + m + 1 from rfl, run_equalIn_struct w (d + m) t _ _ (by rw [hfs]; exact hd) (by simpa using hst), hfs]
          obtain ⟨ks1, rfl, hrun⟩ := run_eqFields' (P := P) (d := d + m) (flatEq P m) (fun t' ks' hF => ⟨fun us vs b w he => (ih d t' ks' hF us vs b w he).1, flatEq_under hF, fun hh => one_of_plain hF hh⟩) us.toArray vs.toArray fs.toList [] ks h
          exact hrun b w (by simpa using he)

end Go.Abs

/-! Sound6 -/
/- Binary and unary operations, closures, parts, places. -/
namespace Go.Abs
open Go.RowKit

variable {P : Program} {G : Nat → Option (List V)}

theorem agg_inv {w : World} {e : Env} {cs : List V} {u : Value} (h : RepF w e (.agg cs) u) : ∃ us : Array Value, u = .agg us ∧ cs.length = us.size ∧
    ∀ (i : Nat) (v : V) (u : Value), cs[i]? = some v → us[i]? = some u → Rep w e v u := by
  cases h.1 with
  | agg cs us hl hh => exact ⟨us, rfl, hl, hh⟩

theorem run_eqGuard_im (op : BinOp) (t : TypeId) (x y : Operand) (u v : Value) (hu : ∀ us, u ≠ .agg us) (hn : u ≠ .nilIface) (w : World) : (eqGuard op t x y u v).run P w = .ok () w := by
  cases op <;> cases u <;> first
    | rfl
    | (exact absurd rfl (hu _))
    | (exact absurd rfl hn)
    | (cases v <;> rfl)

theorem slOf_some0 {t el : TypeId} {s b : Nat} (h : slOf P t = some (el, s, b)) : ∃ i, P.underlying t = some (.slice el) ∧ P.info? el = some i ∧ i.size = s ∧ i.bytes = b := by
  unfold slOf at h
  split at h
  · rename_i e' hu
    obtain ⟨i, hi, he⟩ := Option.map_eq_some_iff.1 h
    simp only [Prod.mk.injEq] at he
    obtain ⟨rfl, rfl, rfl⟩ := he
    exact ⟨i, hu, hi, rfl, rfl⟩
  · cases h

theorem op_nil {o : Oper} {σ : St} {a : Act} {w : World} {e : Env} {k : V → St → Prop} (h : RSt G σ a w e) (op : BinOp) (t t' : TypeId) (x y : Operand) (ho : o.op = .binOp op t x y t') (hn : isNilC y = true)
    (hk : evNil P op t (σ.ev x) fun v => k v σ) : OpDone P G o σ a w e k := by
  have hx := h.ev x
  have hy : a.eval y = .slice none 0 0 := by
    unfold isNilC at hn
    split at hn
    · rfl
    · cases hn
  obtain ⟨hs, hk⟩ := hk
  obtain ⟨⟨el, s, by_⟩, hsl⟩ := Option.isSome_iff_exists.1 hs
  obtain ⟨i, hun, _⟩ := slOf_some0 hsl
  have fin : ∀ b' c n m, (Op.equal t (.slice c n m) (.slice none 0 0)).run P w = .ok b' w → a.eval x = .slice c n m → op = .eql → k (.bool b') σ → OpDone P G o σ a w e k := by
    intro b' c n m hr hx ho' hk2
    clear hk
    subst ho'
    refine opDone_pure h (u := .bool b') ?_ hk2 ⟨.im _, trivial⟩
    simp only [execOp, ho]
    refine run_value ?_
    rw [Sem.run_bind, hx, hy]
    have hg : (eqGuard .eql t x y (.slice c n m) (.slice none 0 0)).run P w = .ok () w := rfl
    rw [hg]
    simp only [Result.andThen, binOp, Sem.run_bind, hr]
    rfl
  have fin2 : ∀ b' c n m, (Op.equal t (.slice c n m) (.slice none 0 0)).run P w = .ok b' w → a.eval x = .slice c n m → op = .neq → k (.bool !b') σ → OpDone P G o σ a w e k := by
    intro b' c n m hr hx ho' hk2
    clear hk
    subst ho'
    refine opDone_pure h (u := .bool !b') ?_ hk2 ⟨.im _, trivial⟩
    simp only [execOp, ho]
    refine run_value ?_
    rw [Sem.run_bind, hx, hy]
    have hg : (eqGuard .neq t x y (.slice c n m) (.slice none 0 0)).run P w = .ok () w := rfl
    rw [hg]
    simp only [Result.andThen, binOp, Sem.run_bind, hr]
    rfl
  have e1 : (Op.equal t (.slice none 0 0) (.slice none 0 0)).run P w = .ok true w := by
    unfold Op.equal Op.maxDepth Op.equalIn
    rw [Sem.run_bind, run_underlying hun]
    rfl
  have e2 : ∀ c n m, (Op.equal t (.slice (some c) n m) (.slice none 0 0)).run P w = .ok false w := by
    intro c n m
    unfold Op.equal Op.maxDepth Op.equalIn
    rw [Sem.run_bind, run_underlying hun]
    rfl
  obtain ⟨hx, _⟩ := hx
  generalize hux : a.eval x = ux at hx
  generalize σ.ev x = vx at hk hx
  cases op with
  | eql =>
    simp only at hk
    cases hx with
    | nil => exact fin _ _ _ _ e1 hux rfl (hk true fun _ => rfl)
    | dat _ _ _ b o cap => exact fin _ _ _ _ (e2 _ _ _) hux rfl (hk false fun h => by cases h)
    | nul => exact fin _ _ _ _ (e2 _ _ _) hux rfl (hk false fun h => by cases h)
    | arr => exact fin _ _ _ _ (e2 _ _ _) hux rfl hk
    | _ => exact hk.elim
  | neq =>
    simp only at hk
    cases hx with
    | nil => exact fin2 _ _ _ _ e1 hux rfl (hk false fun _ => rfl)
    | dat _ _ _ b o cap => exact fin2 _ _ _ _ (e2 _ _ _) hux rfl (hk true fun h => by cases h)
    | nul => exact fin2 _ _ _ _ (e2 _ _ _) hux rfl (hk true fun h => by cases h)
    | arr => exact fin2 _ _ _ _ (e2 _ _ _) hux rfl hk
    | _ => exact hk.elim
  | _ => exact hk.elim

theorem op_binOp {o : Oper} {σ : St} {a : Act} {w : World} {e : Env} {k : V → St → Prop} (h : RSt G σ a w e) (op : BinOp) (t t' : TypeId) (x y : Operand) (ho : o.op = .binOp op t x y t') (hk : evOp P G o σ k) :
    OpDone P G o σ a w e k := by
  simp only [evOp, ho] at hk
  have hx := h.ev x
  have hy := h.ev y
  cases hnil : isNilC y with
  | true =>
    rw [hnil] at hk
    exact op_nil h op t t' x y ho hnil hk
  | false =>
  rw [hnil] at hk
  simp only at hk
  have fin : ∀ u v, (eqGuard op t x y (a.eval x) (a.eval y)).run P w = .ok () w → (binOp op t (a.eval x) (a.eval y)).run P w = .ok u w → k v σ → RepF w e v u → OpDone P G o σ a w e k := by
    intro u v hg hr hk hv
    refine opDone_pure h (u := u) ?_ hk hv
    simp only [execOp, ho]
    refine run_value ?_
    rw [Sem.run_bind, hg]
    exact hr
  generalize σ.ev x = vx at hk hx
  generalize σ.ev y = vy at hk hy
  unfold evBin at hk
  split at hk
  · -- two ints
    rename_i k1 n1 k2 n2
    have ex := rep_int hx
    have ey := rep_int hy
    have hg := run_eqGuard_im (P := P) op t x y (a.eval x) (a.eval y) (by rw [ex]; simp) (by rw [ex]; simp) w
    split at hk
    · obtain ⟨h0, hk⟩ := hk
      refine fin _ _ hg ?_ hk (repF_im w e _)
      rw [ex, ey]
      simp only [binOp, Op.shift]
      rw [if_neg (by omega)]
      rfl
    · obtain ⟨h0, hk⟩ := hk
      refine fin _ _ hg ?_ hk (repF_im w e _)
      rw [ex, ey]
      simp only [binOp, Op.shift]
      rw [if_neg (by omega)]
      rfl
    · rename_i hs1 hs2
      obtain ⟨rfl, hk⟩ := hk
      obtain ⟨u, hk, hr⟩ := evInt_run (P := P) t ⟨hs1, hs2⟩ hk w
      exact fin _ _ hg (by rw [ex, ey]; exact hr) hk (repF_im w e _)
  · -- two bools
    rename_i b1 b2
    have ex := rep_im hx
    have ey := rep_im hy
    have hg := run_eqGuard_im (P := P) op t x y (a.eval x) (a.eval y) (by rw [ex]; simp) (by rw [ex]; simp) w
    obtain ⟨ht, hk⟩ := hk
    split at hk
    · refine fin _ _ hg ?_ hk (repF_im w e _)
      rw [ex, ey]
      simp only [binOp]
      rw [Sem.run_bind]
      unfold Op.equal Op.maxDepth
      rw [run_equalIn_bool' w 9999 t _ _ ht]
      rfl
    · refine fin _ _ hg ?_ hk (repF_im w e _)
      rw [ex, ey]
      simp only [binOp]
      rw [Sem.run_bind]
      unfold Op.equal Op.maxDepth
      rw [run_equalIn_bool' w 9999 t _ _ ht]
      rfl
    · exact hk.elim
  · -- two strings
    have ex := rep_str hx
    have ey := rep_str hy
    have hg := run_eqGuard_im (P := P) op t x y (a.eval x) (a.eval y) (by rw [ex]; simp) (by rw [ex]; simp) w
    obtain ⟨u, v, hk, hr, hv⟩ := evStr_run (P := P) t hk w
    exact fin u v hg (by rw [ex, ey]; exact hr) hk (hv e)
  · -- two aggregates
    rename_i xs ys
    obtain ⟨hgd, hk⟩ := hk
    split at hk
    · rename_i ks hks
      obtain ⟨hag, hk⟩ := hk
      obtain ⟨us, ex, hl1, h1⟩ := agg_inv hx
      obtain ⟨vs, ey, hl2, h2⟩ := agg_inv hy
      have hg : (eqGuard op t x y (a.eval x) (a.eval y)).run P w = .ok () w := by
        rw [ex, ey]; exact run_eqGuard_agg w op t x y us vs hgd
      have hmk : ∀ us : Array Value, mkV P t us.toList = .agg us := by
        intro us
        unfold mkV
        unfold aggT at hag
        split at hag <;> first
          | (cases hag; done)
          | (rename_i hu; rw [hu]; done)
          | (simp; done)
      have heq : ∀ b, cellsEq ks xs ys = some b → (Op.equal t (.agg us) (.agg vs)).run P w = .ok b w := by
        intro b hb
        have hv := valsEq_of ks xs ys us.toList vs.toList b (by simpa using hl1) (by simpa using hl2) (fun i v u hv hu => h1 i v u hv (by simpa using hu)) (fun i v u hv hu => h2 i v u hv (by simpa using hu)) hb
        have := (run_flatEq (P := P) 50 9950 t ks hks us.toList vs.toList b w hv).1
        rw [hmk, hmk] at this
        exact this
      split at hk
      · rename_i b hb
        refine fin _ _ hg ?_ hk (repF_im w e _)
        rw [ex, ey]
        simp only [binOp]
        rw [Sem.run_bind, heq b hb]
        rfl
      · rename_i b hb
        refine fin _ _ hg ?_ hk (repF_im w e _)
        rw [ex, ey]
        simp only [binOp]
        rw [Sem.run_bind, heq b hb]
        rfl
      · exact hk.elim
    · exact hk.elim
  · exact hk.elim

theorem op_unOp {o : Oper} {σ : St} {a : Act} {w : World} {e : Env} {k : V → St → Prop} (h : RSt G σ a w e) (op : UnOp) (t : TypeId) (x : Operand) (ho : o.op = .unOp op t x) (hk : evOp P G o σ k) :
    OpDone P G o σ a w e k := by
  simp only [evOp, ho] at hk
  have hx := h.ev x
  generalize σ.ev x = vx at hk hx
  unfold evUn at hk
  split at hk
  · have ex := rep_im hx
    refine opDone_pure h ?_ hk (repF_im w e _)
    simp only [execOp, ho, ex]
    exact run_value rfl
  · have ex := rep_im hx
    refine opDone_pure h ?_ hk (repF_im w e _)
    simp only [execOp, ho, ex]
    exact run_value rfl
  · exact hk.elim

theorem op_makeFunc {o : Oper} {σ : St} {a : Act} {w : World} {e : Env} {k : V → St → Prop} (h : RSt G σ a w e) (fn : Fn) (x y : Array Operand) (ho : o.op = .makeFunc fn x y) (hk : evOp P G o σ k) :
    OpDone P G o σ a w e k := by
  simp only [evOp, ho] at hk
  refine opDone_pure h (u := .func fn (x.map a.eval) (y.map a.eval)) ?_ hk ⟨.fn _ _ _ _ _ (by simp) (by simp) ?_ ?_, trivial⟩
  · simp only [execOp, ho]
    exact run_value rfl
  · intro i v u hv hu
    rw [List.getElem?_map] at hv
    obtain ⟨p, hp, rfl⟩ := Option.map_eq_some_iff.1 hv
    rw [Array.getElem?_map] at hu
    rw [Array.getElem?_toList] at hp
    rw [hp] at hu
    simp only [Option.map_some, Option.some.injEq] at hu
    subst hu
    exact (h.ev p).1
  · intro i v u hv hu
    rw [List.getElem?_map] at hv
    obtain ⟨p, hp, rfl⟩ := Option.map_eq_some_iff.1 hv
    rw [Array.getElem?_map] at hu
    rw [Array.getElem?_toList] at hp
    rw [hp] at hu
    simp only [Option.map_some, Option.some.injEq] at hu
    subst hu
    exact (h.ev p).1

theorem op_nilCheck {o : Oper} {σ : St} {a : Act} {w : World} {e : Env} {k : V → St → Prop} (h : RSt G σ a w e) (x : Operand) (ho : o.op = .nilCheck x) (hk : evOp P G o σ k) :
    OpDone P G o σ a w e k := by
  simp only [evOp, ho] at hk
  have hx := h.ev x
  have fin : ∀ u v, a.eval x = u → RepF w e v u → k v σ → (∀ m first c, u ≠ .func (.method m) first c) → u ≠ .pointer none → u ≠ .nilIface → u ≠ .nilFunc → OpDone P G o σ a w e k := by
    intro u v hu hv hk h1 h2 h3 h4
    refine opDone_pure h (u := u) ?_ hk hv
    simp only [execOp, ho, hu]
    rfl
  generalize hu : a.eval x = u at hx
  generalize σ.ev x = vx at hk hx
  split at hk
  · refine fin _ _ hu hx hk ?_ ?_ ?_ ?_ <;> (cases hx.1; simp)
  · refine fin _ _ hu hx hk ?_ ?_ ?_ ?_ <;> (cases hx.1; simp)
  · refine fin _ _ hu hx hk ?_ ?_ ?_ ?_ <;> (cases hx.1; simp)
  · refine fin _ _ hu hx hk ?_ ?_ ?_ ?_ <;> (cases hx.1; simp)
  · exact hk.elim

theorem op_pick {o : Oper} {σ : St} {a : Act} {w : World} {e : Env} {k : V → St → Prop} (h : RSt G σ a w e) (c x y : Operand) (ho : o.op = .pick c x y) (hk : evOp P G o σ k) :
    OpDone P G o σ a w e k := by
  simp only [evOp, ho] at hk
  have hc := h.ev c
  generalize σ.ev c = vc at hk hc
  split at hk
  · rename_i t
    have ec := rep_im hc
    cases t with
    | true => exact opDone_pure h (u := a.eval x) (by simp only [execOp, ho, ec]; rfl) (hk.1 rfl) (h.ev x)
    | false => exact opDone_pure h (u := a.eval y) (by simp only [execOp, ho, ec]; rfl) (hk.2 rfl) (h.ev y)
  · exact hk.elim

theorem op_extract {o : Oper} {σ : St} {a : Act} {w : World} {e : Env} {k : V → St → Prop} (h : RSt G σ a w e) (x : Operand) (i : Nat) (ho : o.op = .extract x i) (hk : evOp P G o σ k) :
    OpDone P G o σ a w e k := by
  simp only [evOp, ho] at hk
  have hx := h.ev x
  generalize σ.ev x = vx at hk hx
  split at hk
  · rename_i vs
    split at hk
    · rename_i v hv
      obtain ⟨hx1, _⟩ := hx
      generalize hu : a.eval x = u at hx1
      cases hx1 with
      | tup vs us hl hh =>
        have hi : i < us.size := by rw [← hl]; exact (List.getElem?_eq_some_iff.1 hv).1
        refine opDone_pure h (u := us[i]) ?_ hk (hh i v us[i] hv (Array.getElem?_eq_getElem hi)).strip
        simp only [execOp, ho, hu]
        refine run_value ?_
        simp only [Instr.extract, Array.getElem?_eq_getElem hi]
        rfl
    · exact hk.elim
  · exact hk.elim

theorem fieldOf_some {t ft : TypeId} {f off : Nat} (h : fieldOf P t f = some (off, ft)) : ∃ fs fd, P.underlying t = some (.struct fs) ∧ fs[f]? = some fd ∧ fd.offset = off ∧ fd.type = ft := by
  unfold fieldOf at h
  split at h
  · rename_i fs hu
    obtain ⟨fd, hfd, he⟩ := Option.map_eq_some_iff.1 h
    simp only [Prod.mk.injEq] at he
    exact ⟨fs, fd, hu, hfd, he.1, he.2⟩
  · cases h

/-- A part of a struct or an array. -/
theorem part_cells {w : World} {e : Env} {cs : List V} {us : Array Value} (t : TypeId) (off : Nat) {K : V → Prop} (hl : cs.length = us.size) (h : ∀ (i : Nat) (v : V) (u : Value), cs[i]? = some v → us[i]? = some u → Rep w e v u)
    (hk : evLoadCells P t (cs.drop off) (fun v => K v.strip)) : ∃ u v, (part t us off).run P w = .ok u w ∧ K v ∧ RepF w e v u := by
  unfold evLoadCells at hk
  cases htk : tk P t with
  | none => rw [htk] at hk; exact hk.elim
  | some bn =>
    obtain ⟨bb, n⟩ := bn
    obtain ⟨r1, r2⟩ := tk_some htk w
    rw [htk] at hk
    cases bb with
    | true =>
      obtain ⟨hle, hk⟩ := hk
      simp only [List.length_drop] at hle
      refine ⟨.agg (us.extract off (off + n)), _, ?_, hk, ?_⟩
      · unfold part
        rw [Sem.run_bind, r1]
        simp only [Result.andThen, if_true]
        rw [Sem.run_bind, r2]
        rfl
      · refine ⟨.agg _ _ (by simp; omega) (fun i v u hv hu => ?_), trivial⟩
        rw [List.getElem?_take] at hv
        split at hv
        · rename_i hi
          rw [List.getElem?_drop] at hv
          rw [Array.getElem?_extract] at hu
          split at hu
          · exact h _ v u hv hu
          · cases hu
        · cases hv
    | false =>
      cases hd : cs.drop off with
      | nil => rw [hd] at hk; exact hk.elim
      | cons v rest =>
        rw [hd] at hk
        have hv : cs[off]? = some v := by
          have : (cs.drop off)[0]? = some v := by rw [hd]; rfl
          rwa [List.getElem?_drop] at this
        have hi : off < us.size := by rw [← hl]; exact (List.getElem?_eq_some_iff.1 hv).1
        refine ⟨us[off], _, ?_, hk, (h off v us[off] hv (Array.getElem?_eq_getElem hi)).strip⟩
        unfold part
        rw [Sem.run_bind, r1]
        simp only [Result.andThen, Bool.false_eq_true, if_false, Array.getElem?_eq_getElem hi]
        rfl

theorem op_field {o : Oper} {σ : St} {a : Act} {w : World} {e : Env} {k : V → St → Prop} (h : RSt G σ a w e) (t : TypeId) (x : Operand) (f : Nat) (ho : o.op = .field t x f) (hk : evOp P G o σ k) :
    OpDone P G o σ a w e k := by
  simp only [evOp, ho] at hk
  have hx := h.ev x
  generalize σ.ev x = vx at hk hx
  unfold evField at hk
  split at hk
  · rename_i cs
    split at hk
    · rename_i off ft hf
      obtain ⟨fs, fd, hu, hfd, rfl, rfl⟩ := fieldOf_some hf
      obtain ⟨us, ex, hl, hh⟩ := agg_inv hx
      obtain ⟨u, v, hr, hk, hv⟩ := part_cells fd.type fd.offset (K := fun v => k v σ) hl hh hk
      refine opDone_pure h (u := u) ?_ hk hv
      simp only [execOp, ho, ex]
      refine run_value ?_
      unfold Instr.field
      rw [Sem.run_bind, run_underlying' hu]
      simp only [Result.andThen, hfd]
      exact hr
    · exact hk.elim
  · exact hk.elim


theorem rep_rp_drop {w : World} {e : Env} {cs : List V} {b o n : Nat} (h : Rep w e (.rp cs) (.pointer (some ⟨b, o, none⟩))) : Rep w e (.rp (cs.drop n)) (.pointer (some ⟨b, o + n, none⟩)) := by
  cases h with
  | rp cs b o u h1 h2 =>
    refine .rp _ _ _ (fun j => u (n + j)) (fun j v hv => ?_) (fun j v hv => ?_)
    · rw [List.getElem?_drop] at hv
      have := h1 _ v hv
      rw [← Nat.add_assoc] at this
      exact this
    · rw [List.getElem?_drop] at hv
      exact h2 _ v hv

theorem rp_inv {w : World} {e : Env} {cs : List V} {u : Value} (h : Rep w e (.rp cs) u) : ∃ b o, u = .pointer (some ⟨b, o, none⟩) := by
  cases h with
  | rp cs b o u h1 h2 => exact ⟨b, o, rfl⟩
theorem ptr_inv {w : World} {e : Env} {id off : Nat} {u : Value} (h : Rep w e (.ptr id off) u) : u = .pointer (some ⟨e.ρ id, off, none⟩) ∧ id < e.N := by
  cases h with
  | ptr id off hid => exact ⟨rfl, hid⟩

theorem op_fieldAddr {o : Oper} {σ : St} {a : Act} {w : World} {e : Env} {k : V → St → Prop} (h : RSt G σ a w e) (t : TypeId) (x : Operand) (f : Nat) (ho : o.op = .fieldAddr t x f) (hk : evOp P G o σ k) :
    OpDone P G o σ a w e k := by
  simp only [evOp, ho, evFieldAddr] at hk
  have hx := asRp_repF h.heap (h.ev x)
  generalize hu : a.eval x = u at hx
  generalize asRp G (σ.ev x) = vx at hk hx
  split at hk
  · rename_i fo ft hf
    split at hk
    · rename_i bb n htk
      obtain ⟨hn, hk⟩ := hk
      obtain ⟨fs, fd, hun, hfd, rfl, rfl⟩ := fieldOf_some hf
      have main : ∀ b off v, u = .pointer (some ⟨b, off, none⟩) → k v σ → RepF w e v (.pointer (some ⟨b, off + fd.offset, none⟩)) → OpDone P G o σ a w e k := by
        intro b off v hp hk hv
        refine opDone_pure h (u := .pointer (some ⟨b, off + fd.offset, none⟩)) ?_ hk hv
        simp only [execOp, ho, hu, hp]
        refine run_value ?_
        unfold Instr.fieldAt
        rw [Sem.run_bind, run_underlying' hun]
        simp only [Result.andThen, hfd, Instr.sureAddr]
        unfold fieldPlace
        simp only [Sem.run_bind, Sem.run_pure, Result.andThen, (tk_some htk w).2]
        rw [if_neg (by omega), addr_add]
        rfl
      split at hk
      · obtain ⟨hp, hid⟩ := ptr_inv hx.1
        exact main _ _ _ hp hk ⟨.ptr _ _ hid, trivial⟩
      · obtain ⟨b, off, rfl⟩ := rp_inv hx.1
        exact main _ _ _ rfl hk ⟨rep_rp_drop hx.1, trivial⟩
      · exact hk.elim
    · exact hk.elim
  · exact hk.elim

theorem arrOf_some {t el : TypeId} {n s : Nat} (h : arrOf P t = some (n, el, s)) : ∃ i, P.underlying t = some (.array n el) ∧ P.info? el = some i ∧ i.size = s := by
  unfold arrOf at h
  split at h
  · rename_i n' e' hu
    obtain ⟨i, hi, he⟩ := Option.map_eq_some_iff.1 h
    simp only [Prod.mk.injEq] at he
    obtain ⟨rfl, rfl, rfl⟩ := he
    exact ⟨i, hu, hi, rfl⟩
  · cases h

theorem slOf_some {t el : TypeId} {s b : Nat} (h : slOf P t = some (el, s, b)) : ∃ i, P.underlying t = some (.slice el) ∧ P.info? el = some i ∧ i.size = s ∧ i.bytes = b := by
  unfold slOf at h
  split at h
  · rename_i e' hu
    obtain ⟨i, hi, he⟩ := Option.map_eq_some_iff.1 h
    simp only [Prod.mk.injEq] at he
    obtain ⟨rfl, rfl, rfl⟩ := he
    exact ⟨i, hu, hi, rfl, rfl⟩
  · cases h

theorem op_index {o : Oper} {σ : St} {a : Act} {w : World} {e : Env} {k : V → St → Prop} (h : RSt G σ a w e) (t : TypeId) (x y : Operand) (ho : o.op = .index t x y) (hk : evOp P G o σ k) :
    OpDone P G o σ a w e k := by
  simp only [evOp, ho] at hk
  have hx := h.ev x
  have hy := h.ev y
  generalize σ.ev x = vx at hk hx
  generalize σ.ev y = vy at hk hy
  unfold evIndex at hk
  split at hk
  · rename_i cs kd n
    have ey := rep_int hy
    split at hk
    · rename_i len el s harr
      obtain ⟨h0, hlt, hk⟩ := hk
      obtain ⟨i, hu, hi, hs⟩ := arrOf_some harr
      obtain ⟨us, ex, hl, hh⟩ := agg_inv hx
      obtain ⟨u, v, hr, hk, hv⟩ := part_cells el (n.toNat * s) (K := fun v => k v σ) hl hh hk
      refine opDone_pure h (u := u) ?_ hk hv
      simp only [execOp, ho, ex, ey]
      refine run_value ?_
      unfold Instr.index
      simp only [asIntOf, Sem.run_bind, Sem.run_pure, Result.andThen, run_underlying' hu]
      rw [if_pos ⟨h0, hlt⟩, Sem.run_bind, run_sizeOf' hi, hs]
      exact hr
    · exact hk.elim
  · rename_i l kd n
    obtain ⟨hu, h0, b, hb, hk⟩ := hk
    have ey := rep_int hy
    have ex := rep_str hx
    refine opDone_pure h (u := .int .u8 b.toNat) ?_ hk (repF_im w e _)
    simp only [execOp, ho, ex, ey]
    refine run_value ?_
    unfold Instr.index
    simp only [asIntOf, Sem.run_bind, Sem.run_pure, Result.andThen, run_underlying' hu]
    rw [if_pos h0]
    have : (⟨⟨l⟩⟩ : ByteArray)[n.toNat]? = some b := by
      have hlt := (List.getElem?_eq_some_iff.1 hb).1
      have hlt' : n.toNat < (⟨⟨l⟩⟩ : ByteArray).size := hlt
      rw [getElem?_pos (⟨⟨l⟩⟩ : ByteArray) n.toNat hlt']
      have := (List.getElem?_eq_some_iff.1 hb).2
      exact congrArg some this
    rw [this]
    rfl
  · exact hk.elim

theorem op_indexAddr {o : Oper} {σ : St} {a : Act} {w : World} {e : Env} {k : V → St → Prop} (h : RSt G σ a w e) (t : TypeId) (x y : Operand) (ho : o.op = .indexAddr t x y) (hk : evOp P G o σ k) :
    OpDone P G o σ a w e k := by
  simp only [evOp, ho] at hk
  have hx := asRp_repF h.heap (h.ev x)
  have hy := h.ev y
  generalize hux : a.eval x = ux at hx
  generalize asRp G (σ.ev x) = vx at hk hx
  generalize σ.ev y = vy at hk hy
  unfold evIndexAddr at hk
  split at hk
  · rename_i kd n
    have ey := rep_int hy
    split at hk
    · -- a slice
      rename_i el s by_ hsl
      obtain ⟨i, hu, hi, hs, _⟩ := slOf_some hsl
      have main : ∀ b off len cap v, ux = .slice (some ⟨b, off, none⟩) len cap → 0 ≤ n → n < len → k v σ → RepF w e v (.pointer (some ⟨b, off + n.toNat * s, none⟩)) → OpDone P G o σ a w e k := by
        intro b off len cap v hp h0 hlt hk hv
        refine opDone_pure h (u := .pointer (some ⟨b, off + n.toNat * s, none⟩)) ?_ hk hv
        simp only [execOp, ho, hux, hp, ey]
        refine run_value ?_
        unfold Instr.indexAt
        simp only [asIntOf, Sem.run_bind, Sem.run_pure, Result.andThen, run_underlying' hu]
        rw [if_pos ⟨h0, hlt⟩, Sem.run_bind, run_sizeOf' hi, hs]
        simp only [Result.andThen]
        rw [addr_add]
        rfl
      split at hk
      · obtain ⟨rfl, hs1, h0, r, hr, hk⟩ := hk
        obtain ⟨hx1, _⟩ := hx
        have hlt := (List.getElem?_eq_some_iff.1 hr).1
        cases hx1 with
        | nil => simp at hlt
        | nul => simp at hlt
        | dat _ _ _ b off cap us hes hcap ht h1 h2 =>
          have hrl := hes r (List.mem_of_getElem? hr)
          refine main b off _ _ _ rfl h0 (by omega) hk ⟨.rp r b _ (fun j => us n.toNat j) (fun j v hj => ?_) (fun j v hj => ?_), trivial⟩
          · have := h1 n.toNat j v (by simp [at2, hr, hj])
            rw [Nat.add_assoc]
            exact this
          · exact h2 n.toNat j v (by simp [at2, hr, hj])
      · obtain ⟨rfl, h0, hlt, hk⟩ := hk
        obtain ⟨hx1, _⟩ := hx
        cases hx1 with
        | arr _ _ _ cap hid hc =>
          refine main (e.ρ _) 0 _ _ _ rfl h0 hlt hk ⟨?_, trivial⟩
          rw [Nat.zero_add]
          exact .ptr _ _ hid
      · exact hk.elim
    · -- an array
      rename_i len el s _ harr
      obtain ⟨i, hu, hi, hs⟩ := arrOf_some harr
      have main : ∀ b off v, ux = .pointer (some ⟨b, off, none⟩) → 0 ≤ n → n < len → k v σ → RepF w e v (.pointer (some ⟨b, off + n.toNat * s, none⟩)) → OpDone P G o σ a w e k := by
        intro b off v hp h0 hlt hk hv
        refine opDone_pure h (u := .pointer (some ⟨b, off + n.toNat * s, none⟩)) ?_ hk hv
        simp only [execOp, ho, hux, hp, ey]
        refine run_value ?_
        unfold Instr.indexAt
        simp only [asIntOf, Sem.run_bind, Sem.run_pure, Result.andThen, run_underlying' hu, Instr.sureAddr]
        rw [if_pos ⟨h0, hlt⟩, Sem.run_bind, run_sizeOf' hi, hs]
        simp only [Result.andThen]
        rw [addr_add]
        rfl
      split at hk
      · obtain ⟨h0, hlt, hk⟩ := hk
        obtain ⟨hp, hid⟩ := ptr_inv hx.1
        exact main _ _ _ hp h0 hlt hk ⟨.ptr _ _ hid, trivial⟩
      · obtain ⟨h0, hlt, hk⟩ := hk
        obtain ⟨b, off, rfl⟩ := rp_inv hx.1
        exact main _ _ _ rfl h0 hlt hk ⟨rep_rp_drop hx.1, trivial⟩
      · exact hk.elim
    · exact hk.elim
  · exact hk.elim

/-! ### conversions -/
theorem op_convert {o : Oper} {σ : St} {a : Act} {w : World} {e : Env} {k : V → St → Prop} (h : RSt G σ a w e) (src dst : TypeId) (x : Operand) (ho : o.op = .convert src dst x) (hk : evOp P G o σ k) :
    OpDone P G o σ a w e k := by
  simp only [evOp, ho] at hk
  have hx := h.ev x
  generalize hu : a.eval x = u at hx
  generalize σ.ev x = v at hk hx
  unfold evConvert at hk
  split at hk
  · rename_i el id es len hs hd
    split at hk
    · rename_i ct vs hH
      obtain ⟨he, hes, l, ⟨hl, hvs⟩, hk⟩ := hk
      subst hes
      refine opDone_pure h (u := .string ⟨⟨l⟩⟩) ?_ hk (repF_str _ _ _)
      simp only [execOp, ho, hu]
      refine run_value ?_
      obtain ⟨hx1, _⟩ := hx
      have hb := h.heap.blk id _ hH
      cases hx1 with
      | arr _ _ _ cap hid hcap =>
        cases hb with
        | cells _ _ cs hw hlen hrep =>
          have := run_convert_bytes_back (P := P) w src dst el ⟨e.ρ id, 0, none⟩ cap l hs he hd (fun j hj => by
            have h1 : vs[j]? = some (V.int .u8 (l[j].toNat : Int)) := by
              have h2 : (vs.take len)[j]? = some (V.int .u8 (l[j].toNat : Int)) := by
                rw [hvs]
                simp [hj]
              rw [List.getElem?_take] at h2
              split at h2
              · exact h2
              · cases h2
            have hjs : j < cs.size := by
              have := (List.getElem?_eq_some_iff.1 h1).1
              omega
            have h3 := hrep j _ cs[j] h1 (by simp [hjs])
            have h4 := rep_int h3
            rw [addr_add]
            unfold World.cell?
            simp only [hw, Nat.zero_add]
            simp [hjs, h4])
          rw [hl] at this
          rw [this]
    · exact hk.elim
  · rename_i d kk _ n hs hd
    have := rep_int hx
    subst this
    refine opDone_pure h (u := .int kk (kk.wrap n)) ?_ hk (repF_im _ _ _)
    simp only [execOp, ho, hu]
    refine run_value ?_
    simp [convert, run_underlying hs, run_underlying hd, Conv.intToInt]
  · rename_i l hs hd
    have := rep_str hx
    subst this
    refine opDone_pure h (u := .string ⟨⟨l⟩⟩) ?_ hk (repF_str _ _ _)
    simp only [execOp, ho, hu]
    refine run_value ?_
    simp [convert, run_underlying hs, run_underlying hd]
  · rename_i el es rows fl hs hd
    obtain ⟨he, hes, l, rfl, hk⟩ := hk
    refine opDone_pure h (u := .string ⟨⟨l⟩⟩) ?_ hk (repF_str _ _ _)
    simp only [execOp, ho, hu]
    refine run_value ?_
    obtain ⟨hx1, _⟩ := hx
    generalize hrw : byteRows l = rows at hx1 hes
    cases hx1 with
    | nil =>
      have hl : l = [] := by
        cases l with
        | nil => rfl
        | cons b l => cases hrw
      subst hl
      rw [run_convert_bytes_string w src dst el none 0 0 hs he hd]
      rfl
    | nul _ _ a0 =>
      have hl : l = [] := by
        cases l with
        | nil => rfl
        | cons b l => cases hrw
      subst hl
      exact run_convert_bytes_back (P := P) w src dst el a0 0 [] hs he hd (fun j hj => by simp at hj)
    | dat _ _ _ b off cap uu hes' hcap ht h1 h2 =>
      have hlen : rows.length = l.length := by rw [← hrw]; simp [byteRows]
      have := run_convert_bytes_back (P := P) w src dst el ⟨b, off, none⟩ cap l hs he hd (fun j hj => by
        have hat : at2 rows j 0 = some (V.int .u8 (l[j].toNat : Int)) := by
          rw [← hrw]
          simp [at2, byteRows, hj]
        have hne : rows ≠ [] := by
          intro h0
          rw [h0] at hlen
          simp at hlen
          omega
        have hes1 : es = 1 := hes.resolve_left hne
        have h3 := (h1 j 0 _ hat).1
        have h4 := h2 j 0 _ hat
        have h5 : uu j 0 = .int .u8 (l[j].toNat : Int) := by
          generalize uu j 0 = u0 at h4
          cases h4
          rfl
        rw [h5, hes1] at h3
        simp only [Nat.mul_one, Nat.add_zero] at h3
        rw [addr_add]
        exact h3)
      rw [hlen]
      exact this
  · exact hk.elim

end Go.Abs

/-! Sound7 -/
/- append, len, calls, rounds; and all operations together. -/
namespace Go.Abs
open Go.RowKit

variable {P : Program} {G : Nat → Option (List V)}

/-! ### append -/

/-- The machine's cells of the rows, as one list. -/
def flatU (es : Nat) (u : Nat → Nat → Value) (n : Nat) : List Value := (List.range (n * es)).map fun k => u (k / es) (k % es)

theorem at2_some {rows : List (List V)} {es : Nat} (hes : ∀ r ∈ rows, r.length = es) {k : Nat} (hk : k < rows.length * es) : ∃ v, at2 rows (k / es) (k % es) = some v := by
  have hpos : 0 < es := by
    rcases Nat.eq_zero_or_pos es with h | h
    · rw [h, Nat.mul_zero] at hk; omega
    · exact h
  have h1 : k / es < rows.length := (Nat.div_lt_iff_lt_mul hpos).2 hk
  have h2 : (rows[k / es]).length = es := hes _ (List.getElem_mem h1)
  have h3 : k % es < (rows[k / es]).length := by rw [h2]; exact Nat.mod_lt _ hpos
  exact ⟨(rows[k / es])[k % es], by simp only [at2, List.getElem?_eq_getElem h1, Option.bind_some, List.getElem?_eq_getElem h3]⟩

theorem at2_lt {rows : List (List V)} {es : Nat} (hes : ∀ r ∈ rows, r.length = es) {i j : Nat} {v : V} (h : at2 rows i j = some v) : i < rows.length ∧ j < es := by
  unfold at2 at h
  obtain ⟨r, hr, hj⟩ := Option.bind_eq_some_iff.1 h
  obtain ⟨hi, hri⟩ := List.getElem?_eq_some_iff.1 hr
  refine ⟨hi, ?_⟩
  rw [← hes r (hri ▸ List.getElem_mem hi)]
  exact (List.getElem?_eq_some_iff.1 hj).1

theorem run_firstCells {w : World} {es : Nat} {rows : List (List V)} {b o cap : Nat} {u : Nat → Nat → Value} (hes : ∀ r ∈ rows, r.length = es)
    (h1 : ∀ (i j : Nat) (v : V), at2 rows i j = some v → cel w b (o + (i * es + j)) = some (u i j)) :
    (Builtin.firstCells es rows.length (.slice (some ⟨b, o, none⟩) rows.length cap)).run P w = .ok (flatU es u rows.length).toArray w := by
  unfold Builtin.firstCells
  rw [run_loadCells (us := fun k => u (k / es) (k % es)) (fun k hk => ?_)]
  · rfl
  · obtain ⟨v, hv⟩ := at2_some hes hk
    have := h1 _ _ v hv
    rwa [Nat.div_add_mod' k es] at this

theorem at2_append {xs ys : List (List V)} {i j : Nat} {v : V} (h : at2 (xs ++ ys) i j = some v) : at2 xs i j = some v ∨ (xs.length ≤ i ∧ at2 ys (i - xs.length) j = some v) := by
  unfold at2 at *
  by_cases hi : i < xs.length
  · rw [List.getElem?_append_left hi] at h
    exact .inl h
  · rw [List.getElem?_append_right (by omega)] at h
    exact .inr ⟨by omega, h⟩

theorem run_append_grow' {t t' ty el : TypeId} {i : TypeInfo} {z : Value} (ht : P.underlying t = some (.slice el)) (ht' : notInt P t' = true) (hi : P.info? el = some i) (hz : i.zero = some z)
    (w : World) (base : Option Addr) (sLen sCap m : Nat) (y : Value) (olds news : List Value) (hlen : (Builtin.lenOf y).run P w = .ok m w)
    (hfo : (Builtin.firstCells i.size sLen (.slice base sLen sCap)).run P w.drew = .ok olds.toArray w.drew) (hfn : (Builtin.firstCells i.size m y).run P w.drew = .ok news.toArray w.drew)
    (hg : sCap < sLen + m) (h63 : sLen + m ≤ maxBytes) (hfit : (sLen + m) * i.bytes ≤ maxBytes) :
    (Builtin.append_ #[t, t'] ty #[.slice base sLen sCap, y]).run P w =
      .ok (.slice (some ⟨w.heap.size, 0, none⟩) (sLen + m) (grownCap w (sLen + m) sCap el))
        (w.drew.alloc (.cells (olds.toArray ++ news.toArray ++ Builtin.zeroCells z.cells (grownCap w (sLen + m) sCap el - (sLen + m))) el)) := by
  unfold maxBytes at h63 hfit
  have hn : ¬ (sLen + m ≤ sCap) := by omega
  have h63' : ¬ (9223372036854775807 < ((sLen : Int) + (m : Int))) := by omega
  have h48 := growslice_fits (old := sCap) (bytes := i.bytes) hg (by omega)
  have h48' : ¬ (281474976710656 < Builtin.nextslicecap (sLen + m) sCap * i.bytes) := by omega
  obtain ⟨td, htd⟩ : ∃ td, P.underlying t' = some (.slice td) := by
    unfold notInt at ht'
    split at ht'
    · exact ⟨_, by assumption⟩
    · cases ht'
  simp [Builtin.append_, run_underlying ht, run_underlying htd, sizeOf, typeInfo, zeroValue, hi, hz, hlen, hn, h63', h48', Question.forced, hfn, hfo, newRow, grownCap, Array.append_assoc]
  congr 2
  rw [← List.append_toArray, Array.append_assoc]

theorem run_append_room' {t t' ty el : TypeId} {i : TypeInfo} (ht : P.underlying t = some (.slice el)) (ht' : notInt P t' = true) (hi : P.info? el = some i)
    (w w' : World) (base : Option Addr) (sLen sCap m : Nat) (y : Value) (news : List Value) (hlen : (Builtin.lenOf y).run P w = .ok m w)
    (hfn : (Builtin.firstCells i.size m y).run P w = .ok news.toArray w) (hroom : sLen + m ≤ sCap)
    (hst : match base with
      | some a => (storeCells (a.add (sLen * i.size)) news).run P w = .ok () w'
      | none => w' = w) :
    (Builtin.append_ #[t, t'] ty #[.slice base sLen sCap, y]).run P w = .ok (.slice base (sLen + m) sCap) w' := by
  obtain ⟨td, htd⟩ : ∃ td, P.underlying t' = some (.slice td) := by
    unfold notInt at ht'
    split at ht'
    · exact ⟨_, by assumption⟩
    · cases ht'
  cases base with
  | none =>
    simp only at hst
    subst hst
    simp [Builtin.append_, run_underlying ht, run_underlying htd, sizeOf, typeInfo, hi, hlen, hfn, hroom]
  | some a =>
    simp only at hst
    simp [Builtin.append_, run_underlying ht, run_underlying htd, sizeOf, typeInfo, hi, hlen, hfn, hroom, hst]

/-! ### writing spare places -/
theorem run_storeCells2 (b : Nat) (vs : List Value) : ∀ (w : World) (o i : Nat), (∀ j, j < vs.length → (cel w b (o + i + j)).isSome ∧ fro w b (o + i + j) = false) → (∀ v ∈ vs, one v = true) →
    (storeCells ⟨b, o, none⟩ vs i).run P w = .ok () (setCells w b (o + i) vs) := by
  induction vs with
  | nil => intro w o i _ _; rfl
  | cons v rest ih =>
    intro w o i h h1
    simp only [storeCells]
    rw [Sem.run_bind, addr_add]
    obtain ⟨hc, hf⟩ := h 0 (by simp)
    rw [Nat.add_zero] at hc hf
    obtain ⟨u, hu⟩ := Option.isSome_iff_exists.1 hc
    have hs : (store ⟨b, o + i, none⟩ v).run P w = .ok () (w.setCell ⟨b, o + i, none⟩ v) := by
      have hc' : w.cell? ⟨b, o + i, none⟩ = some u := hu
      have hf' : w.frozen? ⟨b, o + i, none⟩ = false := hf
      have hv := h1 v (by simp)
      cases v <;> first
        | (simp [one] at hv; done)
        | (simp [store, Sem.run, hc', hf'])
    rw [hs]
    simp only [Result.andThen]
    rw [ih _ o (i + 1) (fun j hj => by
      obtain ⟨hc2, hf2⟩ := h (j + 1) (by simp; omega)
      rw [cel_setCell, fro_setCell, show o + (i + 1) + j = o + i + (j + 1) by omega]
      refine ⟨?_, hf2⟩
      split
      · rfl
      · exact hc2) (fun v hv => h1 v (by simp [hv]))]
    rfl

theorem cel_setCells (b : Nat) (vs : List Value) : ∀ (w : World) (o : Nat), (∀ j, j < vs.length → (cel w b (o + j)).isSome) → ∀ b' o',
    cel (setCells w b o vs) b' o' = if b' = b ∧ o ≤ o' ∧ o' < o + vs.length then vs[o' - o]? else cel w b' o' := by
  induction vs with
  | nil => intro w o _ b' o'; rw [if_neg (by simp)]; rfl
  | cons v rest ih =>
    intro w o h b' o'
    rw [setCells, ih _ _ (fun j hj => by
      have := h (j + 1) (by simp; omega)
      rw [cel_setCell, show o + 1 + j = o + (j + 1) by omega]
      split
      · rfl
      · exact this)]
    rw [cel_setCell]
    have h0 := h 0 (by simp)
    rw [Nat.add_zero] at h0
    by_cases hb : b' = b
    · subst hb
      simp only [true_and, h0, and_true, List.length_cons]
      by_cases h1 : o' = o
      · subst h1
        rw [if_neg (by omega), if_pos rfl, if_pos (by omega)]
        simp
      · by_cases h2 : o + 1 ≤ o' ∧ o' < o + 1 + rest.length
        · rw [if_pos h2, if_pos (by omega)]
          obtain ⟨k, hk⟩ : ∃ k, o' - o = k + 1 := ⟨o' - o - 1, by omega⟩
          rw [hk, show o' - (o + 1) = k by omega]
          simp
        · rw [if_neg h2, if_neg h1]
          by_cases h3 : o ≤ o' ∧ o' < o + (rest.length + 1)
          · omega
          · rw [if_neg h3]
    · simp [hb]

theorem fro_setCells (b : Nat) (vs : List Value) : ∀ (w : World) (o b' o' : Nat), fro (setCells w b o vs) b' o' = fro w b' o' := by
  induction vs with
  | nil => intro w o b' o'; rfl
  | cons v rest ih => intro w o b' o'; rw [setCells, ih, fro_setCell]

/-- What keeps every value as it was that is not of class c. -/
structure MonoC (c : Nat) (w : World) (e : Env) (w' : World) (e' : Env) : Prop where
  N : e.N ≤ e'.N
  ρ : ∀ id, id < e.N → e'.ρ id = e.ρ id
  ro : ∀ b o, e.RO b o → e'.RO b o ∧ cel w' b o = cel w b o
  sp : ∀ c' b o, c' ≠ c → e.Sp c' b o → e'.Sp c' b o

theorem RepF.monoC {c : Nat} {w w' : World} {e e' : Env} {v : V} {u : Value} (h : RepF w e v u) (m : MonoC c w e w' e') : RepF w' e' (V.demote (· == c) v) u := by
  have h1 := h.1.mono' m.N m.ρ m.ro
  refine ⟨rep_demote _ h1, ?_⟩
  have h2 := flagOk_demote (· == c) h.2
  refine h2.mono fun es rows c' hv b o hs => m.sp c' b o ?_ hs
  intro hc
  subst hc
  cases v with
  | dat es' rows' fl =>
    cases fl with
    | cls c2 =>
      simp only [V.demote] at hv
      split at hv
      · cases hv
      · rename_i hne
        cases hv
        simp at hne
    | no => simp [V.demote] at hv
    | tight => simp [V.demote] at hv
  | _ => simp [V.demote] at hv

theorem Reps.monoC {c : Nat} {w w' : World} {e e' : Env} {vs : List V} {us : List Value} (h : Reps w e vs us) (m : MonoC c w e w' e') : Reps w' e' (vs.map (V.demote (· == c))) us := by
  refine ⟨by simpa using h.1, fun i v u hv hu => ?_⟩
  rw [List.getElem?_map] at hv
  obtain ⟨v', hv', rfl⟩ := Option.map_eq_some_iff.1 hv
  exact (h.2 i v' u hv' hu).monoC m

theorem RepBlk.monoC {c : Nat} {w w' : World} {e e' : Env} {r : Nat} {b : Blk} (h : RepBlk w e r b) (m : MonoC c w e w' e') (hb : w'.heap[r]? = w.heap[r]?) : RepBlk w' e' r (b.demote (· == c)) := by
  have mm : ∀ {v u}, Rep w e v u → Rep w' e' v u := fun h => h.mono' m.N m.ρ m.ro
  cases h with
  | cells t vs cs hc hl h =>
    refine .cells t _ cs (hb.trans hc) (by simpa using hl) fun i v u hv hu => ?_
    rw [List.getElem?_map] at hv
    obtain ⟨v', hv', rfl⟩ := Option.map_eq_some_iff.1 hv
    exact (h i v' u hv' hu).monoC m
  | map es ms clock hc hl hk h => exact .map es ms clock (hb.trans hc) hl hk fun i x y hx hy => ⟨mm (h i x y hx hy).1, mm (h i x y hx hy).2⟩
  | iter k since stepped seen hc hd => exact .iter k since stepped seen (by rw [hb, hc, m.ρ k hd]) (Nat.lt_of_lt_of_le hd m.N)
  | loop st pend fn tmps params assign body d us hc hd hl h =>
    exact .loop st pend fn tmps params assign body d us (by rw [hb, hc, m.ρ d hd]) (Nat.lt_of_lt_of_le hd m.N) hl fun i v u hv hu => mm (h i v u hv hu)
  | defd hc => exact .defd (hb.trans hc)

theorem live_demoteH {p : Nat → Bool} {H : Heap} {id : Nat} : live (demoteH p H) id ↔ live H id := by
  unfold live demoteH
  rw [List.getElem?_map]
  constructor
  · rintro ⟨b, hb⟩
    obtain ⟨x, hx, hb⟩ := Option.map_eq_some_iff.1 hb
    obtain ⟨b', rfl, _⟩ := Option.map_eq_some_iff.1 hb
    exact ⟨b', hx⟩
  · rintro ⟨b, hb⟩
    exact ⟨b.demote p, by rw [hb]; rfl⟩

/-- The spare places that are written become read-only. -/
def Env.fill (e : Env) (r lo n : Nat) : Env :=
  { e with RO := fun b o => e.RO b o ∨ (b = r ∧ lo ≤ o ∧ o < lo + n), Sp := fun c b o => e.Sp c b o ∧ ¬ (b = r ∧ lo ≤ o ∧ o < lo + n) }

theorem RHeap.fill {H : Heap} {w : World} {e : Env} (hR : RHeap G H w e) (c r lo : Nat) (vs : List Value) (hs : ∀ j, j < vs.length → e.Sp c r (lo + j)) :
    MonoC c w e (setCells w r lo vs) (e.fill r lo vs.length) ∧ RHeap G (demoteH (· == c) H) (setCells w r lo vs) (e.fill r lo vs.length) ∧
    Ext H w e (demoteH (· == c) H) (setCells w r lo vs) (e.fill r lo vs.length) := by
  have hcel := cel_setCells r vs w lo (fun j hj => (hR.sp c r _ (hs j hj)).1)
  have hin : ∀ b o, (b = r ∧ lo ≤ o ∧ o < lo + vs.length) → e.Sp c b o := by
    rintro b o ⟨rfl, h1, h2⟩
    have := hs (o - lo) (by omega)
    rwa [show lo + (o - lo) = o by omega] at this
  have hsize := setCells_size r vs w lo
  by_cases hvs : vs = []
  · subst hvs
    have e1 : setCells w r lo [] = w := rfl
    have m : MonoC c w e (setCells w r lo []) (e.fill r lo 0) := ⟨Nat.le_refl _, fun _ _ => rfl, fun b o h => ⟨.inl h, rfl⟩, fun c' b o _ h => ⟨h, fun hh => by omega⟩⟩
    refine ⟨m, ⟨by simp [demoteH]; exact hR.len, ?_, ?_, ?_, ?_, ?_, ?_, ?_⟩, ⟨rfl, rfl, rfl, Nat.le_refl _, by simp [demoteH], fun _ _ => rfl, ?_, fun id _ h => live_demoteH.1 h, fun _ _ h => .inl h, ?_, ?_, fun _ _ _ _ _ => ⟨rfl, rfl⟩, fun _ _ _ _ => rfl⟩⟩
    · intro id b hb
      unfold demoteH at hb
      rw [List.getElem?_map] at hb
      obtain ⟨x, hx, hb⟩ := Option.map_eq_some_iff.1 hb
      obtain ⟨b', rfl, rfl⟩ := Option.map_eq_some_iff.1 hb
      exact (hR.blk id b' hx).monoC m rfl
    · exact fun i j hi hj => hR.inj i j (live_demoteH.1 hi) (live_demoteH.1 hj)
    · rintro b o (h | ⟨_, h1, h2⟩)
      · exact hR.ro b o h
      · simp at h2; omega
    · rintro id o hl (h | ⟨_, h1, h2⟩)
      · exact hR.roOwn id o (live_demoteH.1 hl) h
      · simp at h2; omega
    · rintro c' b o ⟨h, _⟩
      obtain ⟨h1, h2, h3, h4⟩ := hR.sp c' b o h
      refine ⟨h1, h2, ?_, fun id hl => h4 id (live_demoteH.1 hl)⟩
      rintro (h5 | ⟨_, h5, h6⟩)
      · exact h3 h5
      · simp at h6; omega
    · exact fun c1 c2 b o h1 h2 => hR.spd c1 c2 b o h1.1 h2.1
    · exact fun g cs h => (hR.glob g cs h).mono' m.N m.ρ m.ro
    · intro id hid hl
      have := live_lt (live_demoteH.1 hl)
      omega
    · rintro b o (h | ⟨_, h1, h2⟩)
      · exact .inl h
      · simp at h2; omega
    · exact fun c' b o h => .inr ⟨c', h.1⟩
  · have hr : r < w.heap.size := by
      obtain ⟨v, rest, rfl⟩ : ∃ v rest, vs = v :: rest := by
        cases vs with
        | nil => exact absurd rfl hvs
        | cons v rest => exact ⟨v, rest, rfl⟩
      have := hs 0 (by simp)
      exact lt_of_cel (hR.sp _ _ _ this).1
    have hown : ∀ id, live H id → e.ρ id ≠ r := by
      intro id hl
      have h0 : 0 < vs.length := List.length_pos_iff.2 hvs
      exact (hR.sp c r _ (hs 0 h0)).2.2.2 id hl
    have m : MonoC c w e (setCells w r lo vs) (e.fill r lo vs.length) := by
      refine ⟨Nat.le_refl _, fun _ _ => rfl, fun b o h => ⟨.inl h, ?_⟩, fun c' b o hc h => ⟨h, fun hh => hc (hR.spd c' c b o h (hin b o hh))⟩⟩
      rw [hcel b o, if_neg]
      exact fun hh => (hR.sp c b o (hin b o hh)).2.2.1 h
    refine ⟨m, ⟨by simp [demoteH]; exact hR.len, ?_, ?_, ?_, ?_, ?_, ?_, ?_⟩, ⟨(setCells_rest _ _ _ _).1, (setCells_rest _ _ _ _).2.1, (setCells_rest _ _ _ _).2.2, by omega, by simp [demoteH], fun _ _ => rfl, ?_, fun id _ h => live_demoteH.1 h, fun _ _ h => .inl h, ?_, ?_, ?_, ?_⟩⟩
    · intro id b hb
      unfold demoteH at hb
      rw [List.getElem?_map] at hb
      obtain ⟨x, hx, hb⟩ := Option.map_eq_some_iff.1 hb
      obtain ⟨b', rfl, rfl⟩ := Option.map_eq_some_iff.1 hb
      exact (hR.blk id b' hx).monoC m (setCells_other _ _ _ _ _ (hown id ⟨b', hx⟩))
    · exact fun i j hi hj => hR.inj i j (live_demoteH.1 hi) (live_demoteH.1 hj)
    · rintro b o (h | h)
      · rw [(m.ro b o h).2]; exact hR.ro b o h
      · rw [hcel b o, if_pos h]
        obtain ⟨_, h1, h2⟩ := h
        rw [List.getElem?_eq_getElem (by omega)]
        rfl
    · rintro id o hl (h | ⟨h, _⟩)
      · exact hR.roOwn id o (live_demoteH.1 hl) h
      · exact hown id (live_demoteH.1 hl) h
    · rintro c' b o ⟨h, hn⟩
      obtain ⟨h1, h2, h3, h4⟩ := hR.sp c' b o h
      refine ⟨by rw [hcel b o, if_neg hn]; exact h1, by rw [fro_setCells]; exact h2, ?_, fun id hl => h4 id (live_demoteH.1 hl)⟩
      rintro (h5 | h5)
      · exact h3 h5
      · exact hn h5
    · exact fun c1 c2 b o h1 h2 => hR.spd c1 c2 b o h1.1 h2.1
    · exact fun g cs h => (hR.glob g cs h).mono' m.N m.ρ m.ro
    · intro id hid hl
      have := live_lt (live_demoteH.1 hl)
      omega
    · rintro b o (h | h)
      · exact .inl h
      · exact .inr (.inr (.inl ⟨c, hin b o h⟩))
    · exact fun c' b o h => .inr ⟨c', h.1⟩
    · intro b o _ _ hsp
      refine ⟨?_, fro_setCells _ _ _ _ _ _⟩
      rw [hcel b o, if_neg]
      exact fun hh => hsp c (hin b o hh)
    · intro b _ _ hsp
      refine setCells_other _ _ _ _ _ fun hb => ?_
      subst hb
      have h0 : 0 < vs.length := List.length_pos_iff.2 hvs
      exact hsp c _ (hs 0 h0)

theorem RSt.fill {σ : St} {a : Act} {w : World} {e : Env} (h : RSt G σ a w e) (c r lo : Nat) (vs : List Value) (hs : ∀ j, j < vs.length → e.Sp c r (lo + j)) :
    RSt G { σ with tmps := σ.tmps.map (V.demote (· == c)), H := demoteH (· == c) σ.H } a (setCells w r lo vs) (e.fill r lo vs.length) :=
  ⟨(h.heap.fill c r lo vs hs).2.1, h.tmps.monoC (h.heap.fill c r lo vs hs).1, h.defs, h.defsN, h.cur⟩

/-- Giving up a class's spare places changes nothing. -/
theorem RSt.demote {σ : St} {a : Act} {w : World} {e : Env} (h : RSt G σ a w e) (c : Nat) :
    RSt G { σ with tmps := σ.tmps.map (V.demote (· == c)), H := demoteH (· == c) σ.H } a w e ∧ Ext σ.H w e (demoteH (· == c) σ.H) w e := by
  have m : MonoC c w e w e := ⟨Nat.le_refl _, fun _ _ => rfl, fun _ _ h => ⟨h, rfl⟩, fun _ _ _ _ h => h⟩
  have hR := h.heap
  refine ⟨⟨⟨by simp [demoteH]; exact hR.len, ?_, fun i j hi hj => hR.inj i j (live_demoteH.1 hi) (live_demoteH.1 hj), hR.ro, fun id o hl => hR.roOwn id o (live_demoteH.1 hl), ?_, hR.spd, hR.glob⟩, h.tmps.monoC m, h.defs, h.defsN, h.cur⟩,
    ⟨rfl, rfl, rfl, Nat.le_refl _, by simp [demoteH], fun _ _ => rfl, ?_, fun id _ h => live_demoteH.1 h, fun _ _ h => h, fun _ _ h => .inl h, fun c' _ _ h => .inr ⟨c', h⟩, fun _ _ _ _ _ => ⟨rfl, rfl⟩, fun _ _ _ _ => rfl⟩⟩
  · intro id b hb
    unfold demoteH at hb
    rw [List.getElem?_map] at hb
    obtain ⟨x, hx, hb⟩ := Option.map_eq_some_iff.1 hb
    obtain ⟨b', rfl, rfl⟩ := Option.map_eq_some_iff.1 hb
    exact (hR.blk id b' hx).monoC m rfl
  · intro c' b o h
    obtain ⟨h1, h2, h3, h4⟩ := hR.sp c' b o h
    exact ⟨h1, h2, h3, fun id hl => h4 id (live_demoteH.1 hl)⟩
  · intro id hid hl
    have := live_lt (live_demoteH.1 hl)
    omega

theorem Mono.drew (w : World) (e : Env) : Mono w e w.drew e := ⟨Nat.le_refl _, fun _ _ => rfl, fun _ _ h => ⟨h, rfl⟩, fun _ _ _ h => h⟩

theorem RSt.drew {σ : St} {a : Act} {w : World} {e : Env} (h : RSt G σ a w e) : RSt G σ a w.drew e ∧ Ext σ.H w e σ.H w.drew e := by
  have hR := h.heap
  have m := Mono.drew w e
  refine ⟨⟨⟨hR.len, fun id b hb => (hR.blk id b hb).mono m rfl, hR.inj, hR.ro, hR.roOwn, hR.sp, hR.spd, fun g cs hg => (hR.glob g cs hg).mono m⟩, h.tmps.mono m, h.defs, h.defsN, h.cur⟩,
    ⟨rfl, rfl, rfl, Nat.le_refl _, Nat.le_refl _, fun _ _ => rfl, ?_, fun _ _ h => h, fun _ _ h => h, fun _ _ h => .inl h, fun c _ _ h => .inr ⟨c, h⟩, fun _ _ _ _ _ => ⟨rfl, rfl⟩, fun _ _ _ _ => rfl⟩⟩
  intro id hid hl
  have := live_lt hl
  omega

/-- The cells of a slice, as the machine takes them. -/
theorem rows_cells {w : World} {e : Env} {es s : Nat} {rows : List (List V)} {fl : Fl} {u : Value} (h : Rep w e (.dat es rows fl) u) (hes : rows = [] ∨ es = s) :
    ∃ (base : Option Addr) (cap : Nat) (l : List Value), u = .slice base rows.length cap ∧ rows.length ≤ cap ∧ (base = none → cap = 0) ∧ (fl = .tight → cap = rows.length) ∧ l.length = rows.length * s ∧ (∀ r ∈ rows, r.length = s) ∧
      (∀ w' : World, (∀ b o, cel w' b o = cel w b o) → (Builtin.firstCells s rows.length u).run P w' = .ok l.toArray w') ∧
      (∀ (i j : Nat) (v : V), at2 rows i j = some v → ∃ x, l[i * s + j]? = some x ∧ Rep w e.pure v x) ∧
      (∀ b o, base = some ⟨b, o, none⟩ → ∀ (i j : Nat) (v : V) (x : Value), at2 rows i j = some v → l[i * s + j]? = some x → cel w b (o + (i * s + j)) = some x ∧ e.RO b (o + (i * s + j))) ∧
      (∀ a, base = some a → cap = 0 ∨ a.spot = none) := by
  cases h with
  | nil =>
    exact ⟨none, 0, [], rfl, Nat.le_refl _, fun _ => rfl, fun _ => rfl, by simp, by simp, fun w' _ => rfl, fun i j v hv => by simp [at2] at hv, fun b o h => by simp at h, fun a h => by simp at h⟩
  | nul _ _ a0 =>
    exact ⟨some a0, 0, [], rfl, Nat.le_refl _, fun _ => rfl, fun _ => rfl, by simp, by simp, fun w' _ => run_firstCells_some (P := P) (w := w') s 0 a0 0 0 [] (by simp) (fun j v h => by simp at h), fun i j v hv => by simp [at2] at hv, fun b o h i j v x hv => by simp [at2] at hv, fun a h => .inl rfl⟩
  | dat _ _ _ b o cap uu hes' hcap ht h1 h2 =>
    have hrs : ∀ r ∈ rows, r.length = s := by
      rcases hes with h | h
      · subst h; simp
      · subst h; exact hes'
    have hs : ∀ (i j : Nat) (v : V), at2 rows i j = some v → es = s := by
      intro i j v hv
      rcases hes with h | h
      · subst h; simp [at2] at hv
      · exact h
    refine ⟨some ⟨b, o, none⟩, cap, flatU s uu rows.length, rfl, hcap, (fun h => nomatch h), ht, (by simp [flatU]), hrs, fun w' hw' => ?_, fun i j v hv => ?_, fun b' o' hb i j v x hv hx => ?_, fun a ha => ?_⟩
    · refine run_firstCells hrs fun i j v hv => ?_
      rw [hw']
      have := (h1 i j v hv).1
      rwa [hs i j v hv] at this
    · obtain ⟨hi, hj⟩ := at2_lt hrs hv
      have hlt : i * s + j < rows.length * s := by
        have : (i + 1) * s ≤ rows.length * s := Nat.mul_le_mul_right s hi
        rw [Nat.succ_mul] at this
        omega
      refine ⟨uu i j, ?_, h2 i j v hv⟩
      simp only [flatU, List.getElem?_map, List.getElem?_range hlt, Option.map_some, Option.some.injEq]
      rw [Nat.mul_comm i s, Nat.mul_add_div (by omega), Nat.mul_add_mod, Nat.div_eq_of_lt hj, Nat.mod_eq_of_lt hj, Nat.add_zero]
    · simp only [Option.some.injEq, Addr.mk.injEq, and_true] at hb
      obtain ⟨rfl, rfl⟩ := hb
      obtain ⟨hi, hj⟩ := at2_lt hrs hv
      have hlt : i * s + j < rows.length * s := by
        have : (i + 1) * s ≤ rows.length * s := Nat.mul_le_mul_right s hi
        rw [Nat.succ_mul] at this
        omega
      simp only [flatU, List.getElem?_map, List.getElem?_range hlt, Option.map_some, Option.some.injEq] at hx
      rw [Nat.mul_comm i s, Nat.mul_add_div (by omega), Nat.mul_add_mod, Nat.div_eq_of_lt hj, Nat.mod_eq_of_lt hj, Nat.add_zero] at hx
      have := h1 i j v hv
      rw [hs i j v hv, hx, Nat.mul_comm i s] at this
      rwa [Nat.mul_comm i s]
    · simp only [Option.some.injEq] at ha
      rw [← ha]
      exact .inr rfl

/-- The rows and further ones, read out of cells that lie in a row. -/
theorem rep_append {w : World} {e : Env} {s : Nat} {rows ys : List (List V)} {fl : Fl} {b o cap : Nat} {l : Nat → Option Value}
    (h1 : ∀ r ∈ rows, r.length = s) (h2 : ∀ r ∈ ys, r.length = s) (hcap : rows.length + ys.length ≤ cap) (ht : fl ≠ .tight)
    (hx : ∀ (i j : Nat) (v : V), at2 rows i j = some v → ∃ x, l (i * s + j) = some x ∧ Rep w e.pure v x)
    (hy : ∀ (i j : Nat) (v : V), at2 ys i j = some v → ∃ x, l ((rows.length + i) * s + j) = some x ∧ Rep w e.pure v x)
    (hc : ∀ k x, k < (rows.length + ys.length) * s → l k = some x → cel w b (o + k) = some x ∧ e.RO b (o + k)) :
    Rep w e (.dat s (rows ++ ys) fl) (.slice (some ⟨b, o, none⟩) (rows.length + ys.length) cap) := by
  have hes : ∀ r ∈ rows ++ ys, r.length = s := by
    intro r hr
    rcases List.mem_append.1 hr with h | h
    · exact h1 r h
    · exact h2 r h
  have hall : ∀ (i j : Nat) (v : V), at2 (rows ++ ys) i j = some v → ∃ x, l (i * s + j) = some x ∧ Rep w e.pure v x := by
    intro i j v hv
    rcases at2_append hv with h | ⟨hi, h⟩
    · exact hx i j v h
    · have := hy _ j v h
      rwa [show rows.length + (i - rows.length) = i by omega] at this
  have hlt : ∀ (i j : Nat) (v : V), at2 (rows ++ ys) i j = some v → i * s + j < (rows.length + ys.length) * s := by
    intro i j v hv
    obtain ⟨hi, hj⟩ := at2_lt hes hv
    have : (i + 1) * s ≤ (rows ++ ys).length * s := Nat.mul_le_mul_right s hi
    rw [Nat.succ_mul, List.length_append] at this
    omega
  have := Rep.dat (w := w) (e := e) s (rows ++ ys) fl b o cap (fun i j => (l (i * s + j)).getD undef) hes (by simpa using hcap) (fun h => absurd h ht)
    (fun i j v hv => by
      obtain ⟨x, hx, _⟩ := hall i j v hv
      have := hc _ x (hlt i j v hv) hx
      simpa [hx] using this)
    (fun i j v hv => by
      obtain ⟨x, hx, hr⟩ := hall i j v hv
      simpa [hx] using hr)
  rwa [List.length_append] at this

theorem flatten_length {s : Nat} : ∀ {ys : List (List V)}, (∀ r ∈ ys, r.length = s) → ys.flatten.length = ys.length * s
  | [], _ => by simp
  | r :: ys, h => by
    rw [List.flatten_cons, List.length_append, flatten_length (fun r hr => h r (by simp [hr])), h r (by simp), List.length_cons, Nat.succ_mul]
    omega

theorem at2_flatten {s : Nat} : ∀ {ys : List (List V)}, (∀ r ∈ ys, r.length = s) → ∀ (n : Nat) (v : V), ys.flatten[n]? = some v → at2 ys (n / s) (n % s) = some v
  | [], _, n, v, hv => by simp at hv
  | r :: ys, h, n, v, hv => by
    have hr : r.length = s := h r (by simp)
    rw [List.flatten_cons] at hv
    by_cases hn : n < s
    · rw [List.getElem?_append_left (by omega)] at hv
      rw [Nat.div_eq_of_lt hn, Nat.mod_eq_of_lt hn]
      simpa [at2] using hv
    · rw [List.getElem?_append_right (by omega), hr] at hv
      have ih := at2_flatten (fun r hr => h r (by simp [hr])) (n - s) v hv
      have hs : 0 < s := by
        cases s with
        | zero =>
          have h1 := (List.getElem?_eq_some_iff.1 hv).1
          rw [flatten_length (fun r hr => h r (by simp [hr]))] at h1
          simp at h1
        | succ s => omega
      have h1 : n / s = (n - s) / s + 1 := by
        rw [Nat.div_eq_sub_div hs (by omega)]
      have h2 : n % s = (n - s) % s := Nat.mod_eq_sub_mod (by omega)
      rw [h1, h2]
      unfold at2 at ih ⊢
      rwa [List.getElem?_cons_succ]

theorem op_append {o : Oper} {σ : St} {a : Act} {w : World} {e : Env} {k : V → St → Prop} (h : RSt G σ a w e) (t t' : TypeId) (x y : Operand)
    (ho : o.op = .call { callee := .builtin .append, args := #[x, y], argTypes := #[t, t'] }) (hk : evOp P G o σ k) : OpDone P G o σ a w e k := by
  simp only [evOp, ho, evBuiltin, List.map_cons, List.map_nil] at hk
  unfold evAppend at hk
  have hx := h.ev x
  have hy := h.ev y
  generalize hux : a.eval x = ux at hx
  generalize huy : a.eval y = uy at hy
  generalize σ.ev x = vx at hk hx
  generalize σ.ev y = vy at hk hy
  split at hk
  · rename_i el s bytes hsl
    obtain ⟨i, hu, hi, rfl, rfl⟩ := slOf_some hsl
    split at hk
    · rename_i es rows fl es' ys fl'
      obtain ⟨hni, hs1, hzl, hap, hes', hsol, hby, hml, hk⟩ := hk
      have hes := hap.or
      obtain ⟨z, hz, hzlen⟩ := Option.map_eq_some_iff.1 hzl
      obtain ⟨i', zv, hi', hzv, hzr⟩ := zeroOf_some hz
      rw [hi] at hi'
      simp only [Option.some.injEq] at hi'
      subst hi'
      have hzsz : zv.cells.size = i.size := by have := (hzr w e).1; simp at this; omega
      obtain ⟨base, cap, olds, rfl, hcap, hbn, htight, hol, hrs, hfo, hox, hoc, hsp⟩ := rows_cells (P := P) hx.1 hes
      obtain ⟨base2, cap2, news, rfl, hcap2, _, _, hnl, hys, hfn, hnx, _, _⟩ := rows_cells (P := P) hy.1 hes'
      have hlen : (Builtin.lenOf (.slice base2 ys.length cap2)).run P w = .ok ys.length w := rfl
      have hrun : ∀ u w', (Builtin.append_ #[t, t'] o.type #[.slice base rows.length cap, .slice base2 ys.length cap2]).run P w = .ok u w' → (execOp a.eval o).run P w = .ok (.value u) w' := by
        intro u w' hr
        simp only [execOp, ho, resolve, List.map_toArray, List.map_cons, List.map_nil, hux, huy]
        show Sem.run P (do pure (Next.value (← Builtin.append_ #[t, t'] o.type #[.slice base rows.length cap, .slice base2 ys.length cap2]))) w = _
        exact run_value hr
      have hnone : ∀ v ∈ news, one v = true := by
        intro v hv
        obtain ⟨k, hk, rfl⟩ := List.getElem_of_mem hv
        rw [hnl] at hk
        obtain ⟨vv, hvv⟩ := at2_some hys hk
        obtain ⟨xx, hxx, hrr⟩ := hnx _ _ _ hvv
        rw [Nat.div_add_mod' k i.size, List.getElem?_eq_getElem (by rw [hnl]; exact hk), Option.some.injEq] at hxx
        rw [hxx]
        refine one_of_solid hrr ?_
        unfold at2 at hvv
        obtain ⟨r, hr, hj⟩ := Option.bind_eq_some_iff.1 hvv
        exact List.all_eq_true.1 (hsol r (List.mem_of_getElem? hr)) _ (List.mem_of_getElem? hj)
      have hnx' : ∀ (l : List Value), l = olds ++ news → ∀ (i_1 j : Nat) (v : V), at2 ys i_1 j = some v → ∃ x, l[(rows.length + i_1) * i.size + j]? = some x ∧ Rep w e.pure v x := by
        intro l hl i1 j v hv
        subst hl
        obtain ⟨x, hx, hr⟩ := hnx i1 j v hv
        refine ⟨x, ?_, hr⟩
        rw [List.getElem?_append_right (by rw [hol, Nat.add_mul]; omega), hol, Nat.add_mul, show rows.length * i.size + i1 * i.size + j - rows.length * i.size = i1 * i.size + j by omega]
        exact hx
      have hox' : ∀ (l : List Value), l = olds ++ news → ∀ (i_1 j : Nat) (v : V), at2 rows i_1 j = some v → ∃ x, l[i_1 * i.size + j]? = some x ∧ Rep w e.pure v x := by
        intro l hl i1 j v hv
        subst hl
        obtain ⟨x, hx, hr⟩ := hox i1 j v hv
        exact ⟨x, by rw [List.getElem?_append_left (List.getElem?_eq_some_iff.1 hx).1]; exact hx, hr⟩
      -- the arm that grows
      have grows : ∀ (c : Nat) (σ' : St), cap < rows.length + ys.length → σ'.cur = σ.cur → RSt G σ' a w e → Ext σ.H w e σ'.H w e → k (.dat i.size (rows ++ ys) (.cls c)) σ' → OpDone P G o σ a w e k := by
        intro c σ' hg hcur hst hext hk
        have hr := run_append_grow' (ty := o.type) hu hni hi hzv w base rows.length cap ys.length (.slice base2 ys.length cap2) olds news hlen (hfo w.drew (fun _ _ => rfl)) (hfn w.drew (fun _ _ => rfl)) hg hml hby
        have hge := grownCap_ge w (rows.length + ys.length) cap el
        generalize grownCap w (rows.length + ys.length) cap el = nc at hr hge
        generalize hcs : olds.toArray ++ news.toArray ++ Builtin.zeroCells zv.cells (nc - (rows.length + ys.length)) = cs at hr
        have hcl : cs.size = nc * i.size := by
          rw [← hcs]
          simp only [Array.size_append, List.size_toArray, size_zeroCells, hzsz, hol, hnl, ← Nat.add_mul]
          congr 1
          omega
        have hm : (rows.length + ys.length) * i.size ≤ cs.size := by rw [hcl]; exact Nat.mul_le_mul_right _ hge
        obtain ⟨hst2, hext2⟩ := hst.drew
        have hst3 := hst2.lay el cs ((rows.length + ys.length) * i.size) c hm
        obtain ⟨mo, _, hext3⟩ := hst2.heap.lay el cs ((rows.length + ys.length) * i.size) c hm
        have mo2 : Mono w e (w.drew.alloc (.cells cs el)) (e.lay w.drew.heap.size ((rows.length + ys.length) * i.size) cs.size c) := ⟨mo.N, mo.ρ, mo.ro, mo.sp⟩
        refine ⟨_, _, _, σ', _, .inl (hrun _ _ hr), hk, hcur, hst3, ⟨?_, ?_⟩, (hext.trans hext2).trans hext3⟩
        · refine rep_append (l := fun k => (olds ++ news)[k]?) hrs hys (by omega) (by simp) (fun i1 j v hv => ?_) (fun i1 j v hv => ?_) (fun k x hk hx => ?_)
          · obtain ⟨x, hx, hr⟩ := hox' _ rfl i1 j v hv
            exact ⟨x, hx, hr.mono mo2.pure⟩
          · obtain ⟨x, hx, hr⟩ := hnx' _ rfl i1 j v hv
            exact ⟨x, hx, hr.mono mo2.pure⟩
          · refine ⟨?_, .inr ⟨rfl, by omega⟩⟩
            have hnew : (w.drew.alloc (.cells cs el)).heap[w.heap.size]? = some (.cells cs el) := World.alloc_heap_new w.drew _
            unfold cel World.cell?
            rw [hnew]
            simp only [Option.isSome_none, Bool.false_eq_true, if_false, Nat.zero_add]
            rw [← hcs, Array.getElem?_append_left (by simp only [Array.size_append, List.size_toArray, hol, hnl, ← Nat.add_mul]; exact hk), List.append_toArray, List.getElem?_toArray]
            exact hx
        · refine ⟨fun h0 => .inr (by omega), fun k h1 h2 => .inr ⟨rfl, rfl, ?_, ?_⟩⟩
          · rw [List.length_append] at h1
            show _ ≤ 0 + k
            omega
          · show 0 + k < _
            rw [hcl]; omega
      split at hk
      · exact hk.elim
      · -- no spare places
        have hcr := htight rfl
        have tightA : k (.dat i.size (rows ++ ys) (.cls (o.dst.getD 0))) σ → OpDone P G o σ a w e k := by
          intro hk
          by_cases hroom : rows.length + ys.length ≤ cap
          · have hy0 : ys = [] := List.eq_nil_of_length_eq_zero (by omega)
            subst hy0
            have hnews : news = [] := List.eq_nil_of_length_eq_zero (by rw [hnl]; simp)
            have hr := run_append_room' (ty := o.type) hu hni hi w w base rows.length cap 0 (.slice base2 0 cap2) news hlen (hfn w (fun _ _ => rfl)) hroom (by
              cases base with
              | none => rfl
              | some a0 => rw [hnews]; rfl)
            refine opDone_pure h (hrun _ _ hr) hk ?_
            rw [List.append_nil, Nat.add_zero]
            obtain ⟨hx1, _⟩ := hx
            cases hx1 with
            | nil => exact ⟨.nil _ _, trivial⟩
            | nul => exact ⟨.nul _ _ _, fun _ => .inl rfl, fun k _ h4 => by rw [Nat.zero_mul] at h4; omega⟩
            | dat _ _ _ b0 o0 _ uu hes2 hcap2 ht h1 h2 =>
              have hees : ∀ (i1 j : Nat) (v : V), at2 rows i1 j = some v → es = i.size := by
                intro i1 j v hv
                rcases hes with h | h
                · subst h; simp [at2] at hv
                · exact h
              refine ⟨.dat _ _ _ b0 o0 cap uu hrs hcap2 (by simp) (fun i1 j v hv => ?_) h2, fun h0 => .inr (by omega), fun k h1 h2 => by rw [hcr] at h2; omega⟩
              have := h1 i1 j v hv
              rwa [hees i1 j v hv] at this
          · exact grows _ σ (by omega) rfl h (.refl _ _ _) hk
        have tightB : (rows = [] ∧ ys ≠ [] ∧ ∀ r ∈ ys, ∀ v ∈ r, v.strip = v) → k (.arr σ.H.length i.size ys.length) { σ with H := σ.H ++ [some (.cells el ys.flatten)] } → OpDone P G o σ a w e k := by
          rintro ⟨hr0, hy0, hst⟩ hkB
          clear hk tightA
          subst hr0
          have hyl : 0 < ys.length := List.length_pos_iff.2 hy0
          have hcap0 : cap = 0 := by simpa using hcr
          have hgrow : cap < ([] : List (List V)).length + ys.length := by simp; omega
          have hr := run_append_grow' (ty := o.type) hu hni hi hzv w base 0 cap ys.length (.slice base2 ys.length cap2) olds news hlen (hfo w.drew (fun _ _ => rfl)) (hfn w.drew (fun _ _ => rfl)) (by simpa using hgrow) (by simpa using hml) (by simpa using hby)
          have hge := grownCap_ge w (0 + ys.length) cap el
          generalize grownCap w (0 + ys.length) cap el = nc at hr hge
          generalize hcs : olds.toArray ++ news.toArray ++ Builtin.zeroCells zv.cells (nc - (0 + ys.length)) = cs at hr
          have hol0 : olds = [] := List.eq_nil_of_length_eq_zero (by rw [hol]; simp)
          obtain ⟨hst2, hext2⟩ := h.drew
          have hfl : ∀ (n : Nat) (v : V), ys.flatten[n]? = some v → ∃ x, news[n]? = some x ∧ Rep w e.pure v x := by
            intro n v hv
            have hat := at2_flatten hys n v hv
            obtain ⟨x, hx, hr⟩ := hnx _ _ _ hat
            rw [Nat.div_add_mod' n i.size] at hx
            exact ⟨x, hx, hr⟩
          have hflen : ys.flatten.length = ys.length * i.size := flatten_length hys
          have hnc : news.length ≤ cs.size := by
            rw [← hcs]
            simp only [Array.size_append, List.size_toArray]
            omega
          have hb : RepBlk (w.drew.alloc (.cells cs el)) (e.push w.drew.heap.size) w.drew.heap.size (.cells el ys.flatten) := by
            refine .cells el ys.flatten cs (World.alloc_heap_new w.drew _) (by rw [hflen, ← hnl]; exact hnc) fun n v u hv hu => ?_
            obtain ⟨x, hx, hr⟩ := hfl n v hv
            have hu' : cs[n]? = some x := by
              have hn : n < news.length := (List.getElem?_eq_some_iff.1 hx).1
              rw [← hcs, hol0, Array.getElem?_append_left (by simp; omega)]
              simpa using hx
            rw [hu'] at hu
            simp only [Option.some.injEq] at hu
            subst hu
            have mp := Mono.push hst2.heap (.cells cs el) w.drew.heap.size
            have mo : Mono w e (w.drew.alloc (.cells cs el)) (e.push w.drew.heap.size) := ⟨mp.N, mp.ρ, mp.ro, mp.sp⟩
            have hrh : Rep (w.drew.alloc (.cells cs el)) (e.push w.drew.heap.size) v x := hr.held.mono mo
            obtain ⟨r, hr1, hr2⟩ := List.mem_flatten.1 (List.mem_of_getElem? hv)
            have := hrh.strip
            rwa [hst r hr1 v hr2] at this
          refine ⟨_, _, _, _, _, .inl (hrun _ _ hr), hkB, rfl, hst2.push _ _ hb, ⟨?_, trivial⟩, hext2.trans (hst2.heap.push _ _ hb).2⟩
          have := Rep.arr (w := w.drew.alloc (.cells cs el)) (e := e.push w.drew.heap.size) e.N i.size ys.length nc (by simp [Env.push]) (by simpa using hge)
          rw [Env.push_new, h.heap.len] at this
          simpa using this
        split at hk
        · exact tightA hk
        · rcases hk with hk | ⟨h1, hk⟩
          · exact tightA hk
          · exact tightB h1 hk
      · -- spare places of a class
        rename_i c
        obtain ⟨hd1, hd2⟩ := h.demote c
        by_cases hroom : rows.length + ys.length ≤ cap
        · cases base with
          | none =>
            have hc0 := hbn rfl
            have hy0 : ys = [] := List.eq_nil_of_length_eq_zero (by omega)
            have hr0 : rows = [] := List.eq_nil_of_length_eq_zero (by omega)
            subst hy0; subst hr0
            have hr := run_append_room' (ty := o.type) hu hni hi w w none 0 cap 0 (.slice base2 0 cap2) news hlen (hfn w (fun _ _ => rfl)) hroom rfl
            refine ⟨_, w, _, _, e, .inl (hrun _ _ hr), hk, rfl, hd1, ⟨?_, trivial⟩, hd2⟩
            rw [hc0]
            exact .nil _ _
          | some a0 =>
            by_cases hc0 : cap = 0
            · have hy0 : ys = [] := List.eq_nil_of_length_eq_zero (by omega)
              have hr0 : rows = [] := List.eq_nil_of_length_eq_zero (by omega)
              have hnews : news = [] := List.eq_nil_of_length_eq_zero (by rw [hnl, hy0]; simp)
              subst hy0; subst hr0
              have hr := run_append_room' (ty := o.type) hu hni hi w w (some a0) 0 cap 0 (.slice base2 0 cap2) news hlen (hfn w (fun _ _ => rfl)) hroom (by rw [hnews]; rfl)
              refine ⟨_, w, _, _, e, .inl (hrun _ _ hr), hk, rfl, hd1, ⟨?_, ?_⟩, hd2⟩
              · rw [hc0]
                exact .nul _ _ _
              · rw [hc0]
                exact ⟨fun _ => .inl rfl, fun k _ h4 => by rw [Nat.zero_mul] at h4; omega⟩
            obtain ⟨b0, o0, sp0⟩ := a0
            have := (hsp _ rfl).resolve_left hc0
            simp only at this
            subst this
            have hfl : (rows = [] → cap = 0 ∨ es ≠ 0) ∧ ∀ k, rows.length * es ≤ k → k < cap * es → e.Sp c b0 (o0 + k) := hx.2
            have hspk : ∀ k, rows.length * i.size ≤ k → k < cap * i.size → e.Sp c b0 (o0 + k) := by
              rcases hap with ⟨h0, h00⟩ | h0
              · intro k _ h2
                rw [(hfl.1 h0).resolve_right (fun h => h h00)] at h2
                omega
              · rw [← h0]; exact hfl.2
            have hs : ∀ j, j < news.length → e.Sp c b0 (o0 + rows.length * i.size + j) := by
              intro j hj
              rw [Nat.add_assoc]
              refine hspk _ (by omega) ?_
              rw [hnl] at hj
              have : (rows.length + ys.length) * i.size ≤ cap * i.size := Nat.mul_le_mul_right _ hroom
              rw [Nat.add_mul] at this
              omega
            have hst := run_storeCells2 (P := P) b0 news w (o0 + rows.length * i.size) 0 (fun j hj => by
              have := h.heap.sp c b0 _ (hs j hj)
              exact ⟨this.1, this.2.1⟩) hnone
            have hr := run_append_room' (ty := o.type) hu hni hi w (setCells w b0 (o0 + rows.length * i.size) news) (some ⟨b0, o0, none⟩) rows.length cap ys.length (.slice base2 ys.length cap2) news hlen (hfn w (fun _ _ => rfl)) hroom (by
              simp only [addr_add]
              exact hst)
            have hfill := h.fill c b0 (o0 + rows.length * i.size) news hs
            obtain ⟨mo, _, hext⟩ := h.heap.fill c b0 (o0 + rows.length * i.size) news hs
            have mm : ∀ {v u}, Rep w e.pure v u → Rep (setCells w b0 (o0 + rows.length * i.size) news) (e.fill b0 (o0 + rows.length * i.size) news.length).pure v u := fun h => h.mono' (e := e.pure) (e' := (e.fill b0 (o0 + rows.length * i.size) news.length).pure) (Nat.le_refl 0) (fun _ h => absurd h (Nat.not_lt_zero _)) mo.ro
            have hcel := cel_setCells b0 news w (o0 + rows.length * i.size) (fun j hj => (h.heap.sp c b0 _ (hs j hj)).1)
            refine ⟨_, _, _, _, _, .inl (hrun _ _ hr), hk, rfl, hfill, ⟨?_, ?_⟩, hext⟩
            · refine rep_append (l := fun k => (olds ++ news)[k]?) hrs hys hroom (by simp) (fun i1 j v hv => ?_) (fun i1 j v hv => ?_) (fun k x hk hx => ?_)
              · obtain ⟨x, hx, hr⟩ := hox' _ rfl i1 j v hv
                exact ⟨x, hx, mm hr⟩
              · obtain ⟨x, hx, hr⟩ := hnx' _ rfl i1 j v hv
                exact ⟨x, hx, mm hr⟩
              · by_cases hko : k < olds.length
                · rw [List.getElem?_append_left hko] at hx
                  obtain ⟨v, hv⟩ := at2_some hrs (k := k) (by rw [← hol]; exact hko)
                  have := hoc b0 o0 rfl _ _ v x hv (by rw [Nat.div_add_mod' k i.size]; exact hx)
                  rw [Nat.div_add_mod' k i.size] at this
                  exact ⟨(mo.ro _ _ this.2).2.trans this.1, (mo.ro _ _ this.2).1⟩
                · rw [List.getElem?_append_right (by omega)] at hx
                  have hkl : k - olds.length < news.length := (List.getElem?_eq_some_iff.1 hx).1
                  refine ⟨?_, .inr ⟨rfl, by omega, by omega⟩⟩
                  rw [hcel, if_pos ⟨rfl, by omega, by omega⟩, show o0 + k - (o0 + rows.length * i.size) = k - olds.length by omega]
                  exact hx
            · refine ⟨fun h0 => .inr (by omega), fun k h1 h2 => ?_⟩
              · rw [List.length_append, Nat.add_mul] at h1
                refine ⟨hspk k (by omega) h2, ?_⟩
                rintro ⟨_, h3, h4⟩
                change o0 + k < o0 + rows.length * i.size + news.length at h4
                omega
        · exact grows c { σ with tmps := σ.tmps.map (V.demote (· == c)), H := demoteH (· == c) σ.H } (by omega) rfl hd1 hd2 hk
    · exact hk.elim
  · exact hk.elim

end Go.Abs

/-! Sound8 -/
/- len, min, max, calls; all operations; regions; code. -/
namespace Go.Abs
open Go.RowKit

variable {P : Program} {G : Nat → Option (List V)}

theorem args_eval {σ : St} {a : Act} {w : World} {e : Env} (h : RSt G σ a w e) (args : Array Operand) : Reps w e (args.toList.map σ.ev) (args.map a.eval).toList := by
  refine ⟨by simp, fun i v u hv hu => ?_⟩
  rw [List.getElem?_map] at hv
  obtain ⟨p, hp, rfl⟩ := Option.map_eq_some_iff.1 hv
  rw [Array.toList_map, List.getElem?_map, hp] at hu
  simp only [Option.map_some, Option.some.injEq] at hu
  subst hu
  exact h.ev p

theorem run_builtin {o : Oper} {a : Act} {w w' : World} {b : Builtin} {args : Array Operand} {ts : Array TypeId} {u : Value}
    (ho : o.op = .call { callee := .builtin b, args, argTypes := ts }) (cs : Array Bool) (hc : cs = args.map fun | .const _ => true | _ => false)
    (h : (builtin b ts o.type cs (args.map a.eval)).run P w = .ok (.value u) w') : (execOp a.eval o).run P w = .ok (.value u) w' := by
  subst hc
  simp only [execOp, ho, resolve]
  exact h

theorem setRange_nil {vs : List V} {off : Nat} : setRange vs off [] = vs := by
  unfold setRange
  simp

theorem run_zeroValue8 {t : TypeId} {i : TypeInfo} {v : Value} (hi : P.info? t = some i) (hz : i.zero = some v) (w : World) : (zeroValue t).run P w = .ok v w := run_zeroValue hi hz w

theorem op_clear {o : Oper} {σ : St} {a : Act} {w : World} {e : Env} {k : V → St → Prop} (h : RSt G σ a w e) (ax : Operand) (t : TypeId)
    (ho : o.op = .call { callee := .builtin .clear, args := #[ax], argTypes := #[t] }) (hk : evClear P t (σ.ev ax) σ.H fun H => k (.tup []) { σ with H := H }) : OpDone P G o σ a w e k := by
  have hx := (h.ev ax).1
  unfold evClear at hk
  split at hk
  · rename_i id es off len hv
    rw [hv] at hx
    split at hk
    · rename_i el s by_ bt vs hsl hH
      split at hk
      · rename_i z hz
        obtain ⟨⟨hes, hzl, hs1, hle, hsol⟩, hk⟩ := hk
        obtain ⟨i, hun, hi, hsz, _⟩ := slOf_some hsl
        obtain ⟨i', zv, hi', hzv, hzr⟩ := zeroOf_some hz
        generalize hu : a.eval ax = u at hx
        cases hx with
        | sub _ _ _ _ cap o0 hid hcap hoff =>
          have hlive : live σ.H id := ⟨_, hH⟩
          obtain ⟨cur, hb, hl, hc, hr⟩ := blk_cel (h.heap.blk id _ hH)
          by_cases h0 : len = 0
          · subst h0
            have hset : σ.H.set id (some (.cells bt (setRange vs off (List.replicate 0 z).flatten))) = σ.H := by
              rw [List.replicate_zero, List.flatten_nil, setRange_nil]
              obtain ⟨h1, h2⟩ := List.getElem?_eq_some_iff.1 hH
              rw [← h2, List.set_getElem_self]
            rw [hset] at hk
            refine opDone_pure h (u := .tuple #[]) (run_builtin ho _ rfl ?_) hk ⟨.tup [] #[] rfl (fun i v u h => by simp at h), trivial⟩
            simp only [List.map_toArray, List.map_cons, List.map_nil]
            rw [hu]
            refine run_value ?_
            unfold Builtin.clear_
            simp only [List.getElem?_toArray, List.getElem?_cons_zero, Sem.run_bind, run_underlying' hun, Result.andThen]
            rfl
          · have hoe := hoff (by omega)
            subst hoe
            have hzn : zv.cells.size = s := by
              have := (hzr w e).1
              rw [hzl] at this
              simpa using this.symm
            obtain ⟨zc, hzc⟩ : ∃ zc, zc = (Builtin.zeroCells zv.cells len).toList := ⟨_, rfl⟩
            have hzcl : zc.length = len * s := by rw [hzc]; simp [Builtin.zeroCells, hzn]
            have hzcg : ∀ j, j < len * s → zc[j]? = zv.cells.toList[j % s]? := fun j hj => by
              have hlt : j % s < zv.cells.size := by rw [hzn]; exact Nat.mod_lt _ (by omega)
              rw [hzc]
              simp only [Builtin.zeroCells, hzn, Array.toList_map, Array.toList_range, List.getElem?_map, List.getElem?_range hj, Option.map_some]
              rw [getElem!_pos zv.cells _ hlt]
              simp [hlt]
            have hone : ∀ u ∈ zc, one u = true := by
              intro u hu
              obtain ⟨j, hj, rfl⟩ := List.getElem_of_mem hu
              have h1 := hzcg j (by omega)
              rw [List.getElem?_eq_getElem hj] at h1
              have hlt : j % s < z.length := by rw [hzl]; exact Nat.mod_lt _ (by omega)
              refine one_of_solid ((hzr w e).2 (j % s) z[j % s] _ (List.getElem?_eq_getElem hlt) h1.symm).1 ?_
              exact List.all_eq_true.1 hsol _ (List.getElem_mem hlt)
            have hrun := run_storeCells (P := P) (e.ρ id) bt zc w o0 0 cur hb (by omega) hone
            obtain ⟨cs', hb', hs', hg'⟩ := setCells_heap (e.ρ id) bt zc w o0 cur hb
            have hfl : (List.replicate len z).flatten.length = len * s := by rw [flatten_length (s := s) (fun r hr => by rw [List.eq_of_mem_replicate hr]; exact hzl), List.length_replicate]
            obtain ⟨m, hH', hx'⟩ := h.heap.setBlk hlive (w' := setCells w (e.ρ id) o0 zc) (.cells bt (setRange vs o0 (List.replicate len z).flatten))
              (fun r hr => setCells_other _ _ _ _ _ hr) (setCells_size _ _ _ _) (setCells_rest _ _ _ _) (fun m => by
                refine .cells bt _ cs' hb' (by rw [setRange_length (by omega), hs']; exact hl) (fun i v u hv hu => ?_)
                rw [setRange_get (by omega)] at hv
                rw [hg' i] at hu
                by_cases hi : o0 ≤ i ∧ i < o0 + len * s
                · rw [if_pos (by omega), replicate_get z len _ (by rw [hzl]; omega), hzl] at hv
                  rw [if_pos (by omega), hzcg _ (by omega)] at hu
                  exact ((hzr w e).2 _ v u hv hu).mono m
                · rw [if_neg (by omega)] at hv
                  rw [if_neg (by omega)] at hu
                  have h1 := (List.getElem?_eq_some_iff.1 hv).1
                  have := hr i v hv
                  have hlt : i < cur.size := by omega
                  simp only [Array.getElem?_eq_getElem hlt, Option.some.injEq] at hu
                  have h2 : cur.getD i undef = u := by simp [hlt, hu]
                  exact (h2 ▸ this).mono m)
            refine ⟨.tuple #[], _, .tup [], _, e, .inl ?_, hk, rfl, h.setBlk m hH', ⟨.tup [] #[] rfl (fun i v u h => by simp at h), trivial⟩, hx'⟩
            refine run_builtin ho _ rfl ?_
            simp only [List.map_toArray, List.map_cons, List.map_nil]
            rw [hu]
            refine run_value ?_
            unfold Builtin.clear_
            simp only [List.getElem?_toArray, List.getElem?_cons_zero, Sem.run_bind, run_underlying' hun, Result.andThen]
            obtain ⟨m1, rfl⟩ : ∃ m1, len = m1 + 1 := ⟨len - 1, by omega⟩
            simp only [Sem.run_bind, run_zeroValue8 hi' hzv, Result.andThen, ← hzc, hrun]
            rfl
      · exact hk.elim
    · exact hk.elim
  · exact hk.elim

theorem op_builtin {o : Oper} {σ : St} {a : Act} {w : World} {e : Env} {k : V → St → Prop} (h : RSt G σ a w e) (b : Builtin) (args : Array Operand) (ts : Array TypeId)
    (ho : o.op = .call { callee := .builtin b, args, argTypes := ts }) (hk : evOp P G o σ k) : OpDone P G o σ a w e k := by
  have hk0 := hk
  simp only [evOp, ho] at hk
  obtain ⟨al⟩ := args
  obtain ⟨tl⟩ := ts
  unfold evBuiltin at hk
  split at hk
  · -- len
    rename_i x hx
    rcases al with _ | ⟨ax, _ | ⟨_, _⟩⟩
    · simp at hx
    · simp only [List.map_cons, List.map_nil, List.cons.injEq, and_true] at hx
      have hrep := h.ev ax
      rw [hx] at hrep
      split at hk
      · rename_i t ht
        subst ht
        have fin : ∀ (n : Nat) (u : Value), a.eval ax = u → (Builtin.len_ #[t] o.type #[u]).run P w = .ok (goInt n) w → k (.int .i64 n) σ → OpDone P G o σ a w e k := by
          intro n u hu hr hk
          refine opDone_pure h (u := goInt n) (run_builtin ho _ rfl ?_) hk (repF_im w e _)
          rw [← hu] at hr
          simp only [List.map_toArray, List.map_cons, List.map_nil]
          exact run_value hr
        unfold evLen at hk
        split at hk
        · obtain ⟨hu, hk⟩ := hk
          refine fin _ _ (rep_str hrep) ?_ hk
          unfold Builtin.len_
          simp only [List.getElem?_toArray, List.getElem?_cons_zero, Sem.run_bind, run_underlying' hu, Result.andThen]
          rfl
        · obtain ⟨hsome, hk⟩ := hk
          obtain ⟨⟨el, s, by_⟩, hsl⟩ := Option.isSome_iff_exists.1 hsome
          obtain ⟨i, hun, _⟩ := slOf_some hsl
          obtain ⟨h1, _⟩ := hrep
          generalize hu : a.eval ax = u at h1
          cases h1 with
          | nil =>
            refine fin 0 _ hu ?_ hk
            unfold Builtin.len_
            simp only [List.getElem?_toArray, List.getElem?_cons_zero, Sem.run_bind, run_underlying' hun, Result.andThen]
            rfl
          | nul =>
            refine fin 0 _ hu ?_ hk
            unfold Builtin.len_
            simp only [List.getElem?_toArray, List.getElem?_cons_zero, Sem.run_bind, run_underlying' hun, Result.andThen]
            rfl
          | dat =>
            refine fin _ _ hu ?_ hk
            unfold Builtin.len_
            simp only [List.getElem?_toArray, List.getElem?_cons_zero, Sem.run_bind, run_underlying' hun, Result.andThen]
            rfl
        · obtain ⟨hsome, hk⟩ := hk
          obtain ⟨⟨el, s, by_⟩, hsl⟩ := Option.isSome_iff_exists.1 hsome
          obtain ⟨i, hun, _⟩ := slOf_some hsl
          obtain ⟨h1, _⟩ := hrep
          generalize hu : a.eval ax = u at h1
          cases h1 with
          | arr =>
            refine fin _ _ hu ?_ hk
            unfold Builtin.len_
            simp only [List.getElem?_toArray, List.getElem?_cons_zero, Sem.run_bind, run_underlying' hun, Result.andThen]
            rfl
        · exact hk.elim
      · exact hk.elim
    · simp at hx
  · -- append
    rename_i x y hxy
    rcases al with _ | ⟨ax, _ | ⟨ay, _ | ⟨_, _⟩⟩⟩
    · simp at hxy
    · simp at hxy
    · split at hk
      · rename_i t t' ht
        subst ht
        exact op_append h _ _ ax ay ho hk0
      · exact hk.elim
    · simp at hxy
  · rename_i kd x kd' y hxy
    obtain ⟨rfl, hk⟩ := hk
    rcases al with _ | ⟨ax, _ | ⟨ay, _ | ⟨_, _⟩⟩⟩
    · simp at hxy
    · simp at hxy
    · simp only [List.map_cons, List.map_nil, List.cons.injEq, and_true] at hxy
      have h1 := h.ev ax
      have h2 := h.ev ay
      rw [hxy.1] at h1
      rw [hxy.2] at h2
      refine opDone_pure h (run_builtin ho _ rfl ?_) hk (repF_im w e _)
      simp only [List.map_toArray, List.map_cons, List.map_nil, rep_int h1, rep_int h2]
      exact run_value rfl
    · simp at hxy
  · rename_i kd x kd' y hxy
    obtain ⟨rfl, hk⟩ := hk
    rcases al with _ | ⟨ax, _ | ⟨ay, _ | ⟨_, _⟩⟩⟩
    · simp at hxy
    · simp at hxy
    · simp only [List.map_cons, List.map_nil, List.cons.injEq, and_true] at hxy
      have h1 := h.ev ax
      have h2 := h.ev ay
      rw [hxy.1] at h1
      rw [hxy.2] at h2
      refine opDone_pure h (run_builtin ho _ rfl ?_) hk (repF_im w e _)
      simp only [List.map_toArray, List.map_cons, List.map_nil, rep_int h1, rep_int h2]
      exact run_value rfl
    · simp at hxy
  · -- clear
    rename_i x hx
    rcases al with _ | ⟨ax, _ | ⟨_, _⟩⟩
    · simp at hx
    · simp only [List.map_cons, List.map_nil, List.cons.injEq, and_true] at hx
      split at hk
      · rename_i t ht
        subst ht
        rw [← hx] at hk
        exact op_clear h ax t ho hk
      · exact hk.elim
    · simp at hx
  · exact hk.elim

/-! ### calls -/

theorem Reps.strip {w : World} {e : Env} {vs : List V} {us : List Value} (h : Reps w e vs us) : Reps w e (vs.map V.strip) us := by
  refine ⟨by simpa using h.1, fun i v u hv hu => ?_⟩
  rw [List.getElem?_map] at hv
  obtain ⟨v', hv', rfl⟩ := Option.map_eq_some_iff.1 hv
  exact (h.2 i v' u hv' hu).1.strip

/-- A state in which nobody but the callee's blocks has spare places: what the callee is shown. -/
def Env.hide (e : Env) (p : Nat → Bool) : Env := { e with Sp := fun c b o => p c = true ∧ e.Sp c b o }

theorem Rep.hide {w : World} {e : Env} {v : V} {u : Value} (p : Nat → Bool) (h : Rep w e v u) : Rep w (e.hide p) v u :=
  h.mono' (e := e) (e' := e.hide p) (Nat.le_refl e.N) (fun _ _ => rfl) fun _ _ h => ⟨h, rfl⟩

theorem RepF.hide {w : World} {e : Env} {v : V} {u : Value} (p : Nat → Bool) (h : RepF w e v u) (hp : ∀ es rows c, v = .dat es rows (.cls c) → p c = true) : RepF w (e.hide p) v u :=
  ⟨h.1.hide p, h.2.mono fun es rows c hv _ _ hs => ⟨hp es rows c hv, hs⟩⟩

theorem RHeap.hide {H : Heap} {w : World} {e : Env} (hR : RHeap G H w e) : RHeap G H w (e.hide (heapCls H)) := by
  refine ⟨hR.len, fun id b hb => ?_, hR.inj, hR.ro, hR.roOwn, fun c b o h => hR.sp c b o h.2, fun c c' b o h1 h2 => hR.spd c c' b o h1.2 h2.2, fun g cs h => (hR.glob g cs h).hide _⟩
  have hb0 := hR.blk id b hb
  show RepBlk w _ (e.ρ id) b
  cases hb0 with
  | cells t vs cs hc hl h =>
    refine .cells t vs cs hc hl fun i v u hv hu => (h i v u hv hu).hide _ fun es rows c hcl => ?_
    unfold heapCls
    rw [List.any_eq_true]
    refine ⟨some (.cells t vs), List.mem_of_getElem? hb, ?_⟩
    simp only [Blk.hasCls, List.any_eq_true]
    exact ⟨v, List.mem_of_getElem? hv, by rw [hcl]; simp [V.hasCls]⟩
  | map es ms clock hc hl hk h => exact .map es ms clock hc hl hk fun i x y hx hy => ⟨(h i x y hx hy).1.hide _, (h i x y hx hy).2.hide _⟩
  | iter k since stepped seen hc hd => exact .iter k since stepped seen hc hd
  | loop st pend fn tmps params assign body d us hc hd hl h => exact .loop st pend fn tmps params assign body d us hc hd hl fun i v u hv hu => (h i v u hv hu).hide _
  | defd hc => exact .defd hc

/-- What was hidden comes back. -/
def Env.unhide (e' e : Env) (p : Nat → Bool) : Env := { e' with Sp := fun c b o => e'.Sp c b o ∨ (p c = false ∧ e.Sp c b o) }

theorem unhide_ok {H H' : Heap} {w w' : World} {e e' : Env} {p : Nat → Bool} (hR : RHeap G H w e) (hR' : RHeap G H' w' e') (hx : Ext H w (e.hide p) H' w' e') :
    Mono w' e' w' (e'.unhide e p) ∧ RHeap G H' w' (e'.unhide e p) ∧ Ext H w e H' w' (e'.unhide e p) := by
  have m : Mono w' e' w' (e'.unhide e p) := ⟨Nat.le_refl _, fun _ _ => rfl, fun _ _ h => ⟨h, rfl⟩, fun _ _ _ h => .inl h⟩
  -- a hidden spare place: nobody has touched it
  have hid : ∀ c b o, p c = false → e.Sp c b o → (cel w' b o).isSome ∧ fro w' b o = false ∧ ¬ e'.RO b o ∧ (∀ id, live H' id → e'.ρ id ≠ b) ∧ ∀ c', ¬ e'.Sp c' b o := by
    intro c b o hp hs
    obtain ⟨h1, h2, h3, h4⟩ := hR.sp c b o hs
    have hlt := lt_of_cel h1
    have hne : ∀ c', ¬ (e.hide p).Sp c' b o := by
      rintro c' ⟨hp', hs'⟩
      have := hR.spd c c' b o hs hs'
      subst this
      rw [hp] at hp'
      cases hp'
    obtain ⟨e1, e2⟩ := hx.cell b o hlt (fun id hl => h4 id hl) hne
    refine ⟨by rw [e1]; exact h1, by rw [e2]; exact h2, fun hro => ?_, fun id hl he => ?_, fun c' hs' => ?_⟩
    · rcases hx.roNew b o hro with h | h | ⟨c', h⟩ | ⟨id, hl, he⟩
      · exact h3 h
      · omega
      · exact hne c' h
      · exact h4 id hl he
    · by_cases hid : id < H.length
      · rw [hx.ρ id hid] at he
        exact h4 id (hx.old id hid hl) he
      · have := hx.new id (by omega) hl
        omega
    · rcases hx.spNew c' b o hs' with h | ⟨c2, h⟩
      · omega
      · exact hne c2 h
  refine ⟨m, ⟨hR'.len, fun id b hb => (hR'.blk id b hb).mono m rfl, hR'.inj, hR'.ro, hR'.roOwn, ?_, ?_, fun g cs h => (hR'.glob g cs h).mono m⟩,
    ⟨hx.os, hx.tape, hx.output, hx.size, hx.len, hx.ρ, hx.new, hx.old, hx.ro, ?_, ?_, ?_, ?_⟩⟩
  · rintro c b o (h | ⟨hp, h⟩)
    · exact hR'.sp c b o h
    · obtain ⟨h1, h2, h3, h4, _⟩ := hid c b o hp h
      exact ⟨h1, h2, h3, h4⟩
  · rintro c1 c2 b o (h1 | ⟨hp1, h1⟩) (h2 | ⟨hp2, h2⟩)
    · exact hR'.spd c1 c2 b o h1 h2
    · exact absurd h1 ((hid c2 b o hp2 h2).2.2.2.2 c1)
    · exact absurd h2 ((hid c1 b o hp1 h1).2.2.2.2 c2)
    · exact hR.spd c1 c2 b o h1 h2
  · intro b o h
    rcases hx.roNew b o h with h | h | ⟨c', h⟩ | h
    · exact .inl h
    · exact .inr (.inl h)
    · exact .inr (.inr (.inl ⟨c', h.2⟩))
    · exact .inr (.inr (.inr h))
  · rintro c b o (h | ⟨_, h⟩)
    · rcases hx.spNew c b o h with h | ⟨c2, h⟩
      · exact .inl h
      · exact .inr ⟨c2, h.2⟩
    · exact .inr ⟨c, h⟩
  · exact fun b o hb ho hs => hx.cell b o hb ho fun c h => hs c h.2
  · exact fun b hb ho hs => hx.block b hb ho fun c o h => hs c o h.2

/-- The caller's temporaries behind a call. -/
theorem tmps_after {H H' : Heap} {w w' : World} {e e' : Env} (hR : RHeap G H w e) (hR' : RHeap G H' w' e') (hx : Ext H w (e.hide (heapCls H)) H' w' e') {vs : List V} {us : List Value} (h : Reps w e vs us) :
    Reps w' (e'.unhide e (heapCls H)) (vs.map (V.demote (heapCls H))) us := by
  refine ⟨by simpa using h.1, fun i v u hv hu => ?_⟩
  rw [List.getElem?_map] at hv
  obtain ⟨v', hv', rfl⟩ := Option.map_eq_some_iff.1 hv
  obtain ⟨h1, h2⟩ := h.2 i v' u hv' hu
  have hRh := hR.hide
  have r1 : Rep w' e' v' u := (h1.hide (heapCls H)).ext hRh hR' hx
  have r2 : Rep w' (e'.unhide e (heapCls H)) v' u := r1.mono (unhide_ok hR hR' hx).1
  refine ⟨rep_demote _ r2, ?_⟩
  refine (flagOk_demote (heapCls H) h2).mono fun es rows c hcl b o hs => ?_
  refine .inr ⟨?_, hs⟩
  cases v' with
  | dat es' rows' fl =>
    cases fl with
    | cls c2 =>
      simp only [V.demote] at hcl
      split at hcl
      · cases hcl
      · rename_i hne
        cases hcl
        simpa using hne
    | no => simp [V.demote] at hcl
    | tight => simp [V.demote] at hcl
  | _ => simp [V.demote] at hcl

/-- Behind a call (or a round) the caller's state. -/
theorem RSt.after {σ : St} {a : Act} {w w' : World} {e e' : Env} {H' : Heap} (h : RSt G σ a w e) (hR' : RHeap G H' w' e') (hx : Ext σ.H w (e.hide (heapCls σ.H)) H' w' e') :
    RSt G (σ.afterCall H') a w' (e'.unhide e (heapCls σ.H)) := by
  have hlen := h.heap.len
  refine ⟨(unhide_ok h.heap hR' hx).2.1, tmps_after h.heap hR' hx h.tmps, ?_, fun id hid => ?_, fun id hid => ?_⟩
  · show a.defers = σ.defs.map _
    rw [h.defs]
    refine List.map_congr_left fun id hid => ?_
    show ({ target := .collected (e.ρ id), args := #[] } : Deferred) = { target := .collected (e'.ρ id), args := #[] }
    rw [hx.ρ id (by rw [← hlen]; exact h.defsN id hid)]
    rfl
  · have := h.defsN id hid
    have := hx.len
    have := hR'.len
    show id < e'.N
    omega
  · have := h.cur id hid
    have := hx.len
    have := hR'.len
    show id < e'.N
    omega

/-- What an operation owes: its walk, for every continuation. -/
def OpWp (P : Program) (G : Nat → Option (List V)) (ro : Option Nat) (o : Oper) (σ : St) (a : Act) (w : World) (e : Env) (k : V → St → Prop) : Prop :=
  ∀ (next : Act → World → Prop) (Q : Exit → Act → World → Prop),
    (∀ u w' v σ' e', k v σ' → σ'.cur = σ.cur → RSt G σ' a w' e' → RepF w' e' v u → Ext σ.H w e σ'.H w' e' → next (a.put o.dst u) w') → o.wpIn (FW ro) 0 P a w next Q

theorem opWp_of_done {ro : Option Nat} {o : Oper} {σ : St} {a : Act} {w : World} {e : Env} {k : V → St → Prop} (hnd : ∀ c, o.op ≠ .defer c) (h : OpDone P G o σ a w e k) : OpWp P G ro o σ a w e k := by
  intro next Q hn
  obtain ⟨u, w', v, σ', e', hr, hk, hc, hst, hv, hx⟩ := h
  refine ⟨fun _ _ => trivial, ?_⟩
  rw [Oper.semAt_eq _ _ _ hnd]
  rcases hr with hr | ⟨hr, rfl⟩
  · rw [hr]
    exact hn u w' v σ' e' hk hc hst hv hx
  · rw [hr]
    exact hn undef w' v σ' e' hk hc hst hv hx

theorem op_call {ro : Option Nat} {o : Oper} {σ : St} {a : Act} {w : World} {e : Env} {k : V → St → Prop} (h : RSt G σ a w e) (f : Operand) (args : Array Operand) (ts : Array TypeId)
    (ho : o.op = .call { callee := .value f, args, argTypes := ts }) (hk : evOp P G o σ k) : OpWp P G ro o σ a w e k := by
  intro next Q hn
  simp only [evOp, ho] at hk
  have hf := h.ev f
  have hargs := args_eval h args
  refine ⟨fun _ _ => trivial, ?_⟩
  rw [Oper.semAt_eq _ _ _ (by rw [ho]; simp)]
  simp only [execOp, ho, resolve]
  generalize huf : a.eval f = uf at hf
  generalize σ.ev f = vf at hk hf
  split at hk
  · rename_i g first caps
    obtain ⟨⟨fn, hfn, hbody, hname⟩, hk⟩ := hk
    obtain ⟨h1, _⟩ := hf
    cases h1 with
    | fn _ _ _ first' caps' hl1 hl2 hr1 hr2 =>
      have hrun : (do let d ← Deferred.ofValue (Value.func (.func g) first' caps') (args.map a.eval); invoke d.target d.args : Sem Next).run P w = .ok (.enter g ((first' ++ args.map a.eval) ++ caps')) w := by
        simp only [Deferred.ofValue, Sem.run_bind, Sem.run_pure, Result.andThen, invoke, callFunc, program]
        simp only [Sem.run, hfn, hname, Bool.false_eq_true, if_false]
        rw [if_neg (by rw [Option.isNone_iff_eq_none]; exact Option.isSome_iff_ne_none.1 hbody)]
        rfl
      rw [hrun]
      refine ⟨fun h => by simp [FW, Fence.wide] at h, ?_⟩
      have hall : Reps w (e.hide (heapCls σ.H)) ((first ++ args.toList.map σ.ev ++ caps).map V.strip) ((first' ++ args.map a.eval) ++ caps').toList := by
        refine ⟨by simp [hl1, hl2], fun i v u hv hu => ?_⟩
        rw [List.getElem?_map] at hv
        obtain ⟨v', hv', rfl⟩ := Option.map_eq_some_iff.1 hv
        have hrep : Rep w e v' u := by
          simp only [Array.toList_append] at hu
          by_cases hi : i < first.length
          · rw [List.append_assoc, List.getElem?_append_left hi] at hv'
            rw [List.append_assoc, List.getElem?_append_left (by simpa [← hl1] using hi)] at hu
            exact hr1 i v' u hv' (by simpa using hu)
          · rw [List.append_assoc, List.getElem?_append_right (by omega)] at hv'
            rw [List.append_assoc, List.getElem?_append_right (by simp [← hl1]; omega)] at hu
            simp only [Array.length_toList, ← hl1] at hu
            have hlen : (args.toList.map σ.ev).length = (args.map a.eval).toList.length := by simp
            by_cases hj : i - first.length < (args.toList.map σ.ev).length
            · rw [List.getElem?_append_left hj] at hv'
              rw [List.getElem?_append_left (by rw [← hlen]; exact hj)] at hu
              exact (hargs.2 _ v' u hv' hu).1
            · rw [List.getElem?_append_right (by omega)] at hv'
              rw [List.getElem?_append_right (by rw [← hlen]; omega), ← hlen] at hu
              exact hr2 _ v' u hv' (by simpa using hu)
        exact (hrep.hide _).strip
      have hcall := hk w (e.hide (heapCls σ.H)) _ h.heap.hide hall
      refine CallsIn.mono (F := Fence.wide) hcall ?_
      rintro en w' ⟨v, r, H', e', rfl, hΨ, hR', hv, hx⟩
      exact hn v w' r (σ.afterCall H') (e'.unhide e (heapCls σ.H)) hΨ rfl (h.after hR' hx) (hv.mono (unhide_ok h.heap hR' hx).1) (unhide_ok h.heap hR' hx).2.2
  · rename_i id
    obtain ⟨h1, _⟩ := hf
    cases h1 with
    | yld _ hid =>
      have hall : Reps w (e.hide (heapCls σ.H)) ((args.toList.map σ.ev).map V.strip) (args.map a.eval).toList := by
        refine ⟨by simp, fun i v u hv hu => ?_⟩
        rw [List.getElem?_map] at hv
        obtain ⟨v', hv', rfl⟩ := Option.map_eq_some_iff.1 hv
        exact ((hargs.2 i v' u hv' hu).1.hide _).strip
      obtain ⟨r, w1, l, f, tmps, assign, body, hy, rfl, rfl, hround⟩ := hk w (e.hide (heapCls σ.H)) _ h.heap.hide hall
      have hy' : (Instr.yield (e.ρ id) (args.map a.eval)).run P w1 = .ok (.round l f tmps assign body) w1 := by
        rw [Array.toArray_toList] at hy
        exact hy
      have hrun : (do let d ← Deferred.ofValue (Value.func (.yield (e.ρ id)) #[] #[]) (args.map a.eval); invoke d.target d.args : Sem Next).run P w1 = .ok (.round l f tmps assign body) w1 := by
        simp only [Deferred.ofValue, Sem.run_bind, Sem.run_pure, Result.andThen, invoke]
        simpa using hy'
      rw [hrun]
      refine ⟨fun h => by simp [FW, Fence.wide] at h, ?_⟩
      refine RoundIn.mono (F := Fence.wide) hround ?_
      rintro en w' ⟨v, r, H', e', rfl, hΨ, hR', hv, hx⟩
      exact hn v w' r (σ.afterCall H') (e'.unhide e (heapCls σ.H)) hΨ rfl (h.after hR' hx) (hv.mono (unhide_ok h.heap hR' hx).1) (unhide_ok h.heap hR' hx).2.2
  · exact hk.elim

end Go.Abs
