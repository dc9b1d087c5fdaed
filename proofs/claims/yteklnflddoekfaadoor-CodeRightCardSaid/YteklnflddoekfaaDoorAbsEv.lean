/- The generator of verification conditions over abstract states. -/
import Derived.Test.YteklnflddoekfaaDoorAbsCore
namespace Go.Abs
open Go.RowKit

structure St where
  tmps : List V
  H : Heap
  defs : List Nat := []
  cur : Option Nat := none

/-- The spare places of some classes are given up. -/
def V.demote (p : Nat → Bool) : V → V
  | .dat es rows (.cls c) => if p c then .dat es rows .no else .dat es rows (.cls c)
  | v => v

/-- Nothing is known of the spare places, but that there are none. -/
def V.strip : V → V
  | .dat es rows (.cls _) => .dat es rows .no
  | v => v

def Blk.demote (p : Nat → Bool) : Blk → Blk
  | .cells t vs => .cells t (vs.map (V.demote p))
  | b => b

def demoteH (p : Nat → Bool) (H : Heap) : Heap := H.map (Option.map (Blk.demote p))

/-- Of a constant. -/
def absV : Value → V
  | .string s => .str s.data.toList
  | .slice none 0 0 => .dat 0 [] .tight
  | v => .im v

def St.ev (σ : St) : Operand → V
  | .tmp t => σ.tmps.getD t .bad
  | .const v => absV v
  | .global g => .im (.pointer (some ⟨g, 0, none⟩))
  | .func f => .fn (.func f) [] []

/-- The cells of a value that is laid into a block. -/
def V.cellsF : V → Option (List V)
  | .agg cs => some (cs.map V.strip)
  | .bad | .tup _ | .im (.agg _) | .im (.tuple _) => none
  | v => some [v]

/-- Is it a value of one cell? -/
def V.solid : V → Bool
  | .bad | .agg _ | .tup _ | .im (.agg _) | .im (.tuple _) => false
  | _ => true

/-- May it lie in read-only memory? -/
def V.dataCell : V → Bool
  | .im _ | .str _ | .dat .. => true
  | _ => false

/-! ### types -/
/-- Is it a struct or an array? How many cells? -/
def tk (P : Program) (t : TypeId) : Option (Bool × Nat) :=
  match P.underlying t, P.info? t with
  | some (.struct _), some i | some (.array ..), some i => some (true, i.size)
  | some _, some i => some (false, i.size)
  | _, _ => none
def aggT (P : Program) (t : TypeId) : Bool := match P.underlying t with | some (.struct _) | some (.array ..) => true | _ => false
/-- A struct's fields: place, type. -/
def fieldOf (P : Program) (t : TypeId) (i : Nat) : Option (Nat × TypeId) :=
  match P.underlying t with
  | some (.struct fs) => (fs[i]?).map fun f => (f.offset, f.type)
  | _ => none
/-- An array's length, its element's type and size. -/
def arrOf (P : Program) (t : TypeId) : Option (Nat × TypeId × Nat) :=
  match P.underlying t with
  | some (.array n e) => (P.info? e).map fun i => (n, e, i.size)
  | _ => none
/-- A slice's element: type, size, bytes. -/
def slOf (P : Program) (t : TypeId) : Option (TypeId × Nat × Nat) :=
  match P.underlying t with
  | some (.slice e) => (P.info? e).map fun i => (e, i.size, i.bytes)
  | _ => none
/-- A type's zero cells. -/
def zeroOf (P : Program) (t : TypeId) : Option (List V) :=
  match (P.info? t).bind (·.zero) with
  | some (.agg us) => some (us.toList.map absV)
  | some v => some [absV v]
  | none => none
/-- Where the parts of a struct or an array lie: place, size. -/
def placesOf (P : Program) (t : TypeId) : Option (Nat → Option (Nat × Nat)) :=
  match P.underlying t with
  | some (.struct fs) => (fs.toList.mapM fun f => (P.info? f.type).map fun j => (f.offset, j.size)).map fun l i => l[i]?
  | some (.array _ e) => (P.info? e).map fun j i => some (i * j.size, j.size)
  | _ => none

/-! ### what the operations come to -/

def evLoadCells (P : Program) (t : TypeId) (vs : List V) (k : V → Prop) : Prop :=
  match tk P t with
  | some (true, n) => n ≤ vs.length ∧ k (.agg (vs.take n))
  | some (false, _) => match vs with
    | v :: _ => k v
    | [] => False
  | none => False

def evLoad (P : Program) (t : TypeId) (σ : St) (k : V → Prop) : V → Prop
  | .ptr id off => match σ.H[id]? with
    | some (some (.cells _ vs)) => evLoadCells P t (vs.drop off) k
    | _ => False
  | .rp cs => evLoadCells P t cs (fun v => k v.strip)
  | _ => False

def setRange (vs : List V) (off : Nat) (cs : List V) : List V := vs.take off ++ cs ++ vs.drop (off + cs.length)

def evStore (P : Program) (t : TypeId) (σ : St) (x : V) (k : St → Prop) : V → Prop
  | .ptr id off => match σ.H[id]? with
    | some (some (.cells e vs)) => match x.cellsF, tk P t with
      | some cs, some (_, n) => cs.length = n ∧ off + n ≤ vs.length ∧ cs.all V.solid = true ∧ k { σ with H := σ.H.set id (some (.cells e (setRange vs off cs))) }
      | _, _ => False
    | _ => False
  | _ => False

def fillV (place : Nat → Option (Nat × Nat)) (cells : List V) : List (Nat × V) → Option (List V)
  | [] => some cells
  | (i, v) :: rest =>
    match place i, v.cellsF with
    | some (off, size), some cs => if cs.length = size ∧ off + size ≤ cells.length then fillV place (setRange cells off cs) rest else none
    | _, _ => none

def evBuild (P : Program) (t : TypeId) (parts : List (Nat × V)) (k : V → Prop) : Prop :=
  match placesOf P t, zeroOf P t with
    | some pl, some z => match fillV pl z parts with
      | some cs => k (.agg cs)
      | none => False
    | _, _ => False

/-- Rows of n cells each. -/
def chunks (n : Nat) : Nat → List V → List (List V)
  | 0, _ => []
  | m + 1, cs => cs.take n :: chunks n m (cs.drop n)

def evBuildSlice (P : Program) (t : TypeId) (len : Nat) (parts : List (Nat × V)) (k : V → Prop) : Prop :=
  match slOf P t with
  | some (e, n, _) => match zeroOf P e with
    | some z => z.length = n ∧ 1 ≤ n ∧ len * n ≤ 2 ^ 24 ∧
      match fillV (fun i => some (i * n, n)) (List.replicate len z).flatten parts with
      | some cs => cs.all V.dataCell = true ∧ k (.dat n (chunks n len cs) .tight)
      | none => False
    | none => False
  | none => False

/-- What a cell that is compared holds. -/
inductive CK where
  | b | i | s

/-- Cell by cell. -/
def cellEq : CK → V → V → Option Bool
  | .i, .im (.int k a), .im (.int k' b) => if k = k' then some (decide (a = b)) else none
  | .b, .im (.bool a), .im (.bool b) => some (a == b)
  | .s, .str a, .str b => some (decide (a = b))
  | _, _, _ => none
def cellsEq : List CK → List V → List V → Option Bool
  | [], [], [] => some true
  | k :: ks, x :: xs, y :: ys => match cellEq k x y, cellsEq ks xs ys with
    | some a, some b => some (a && b)
    | _, _ => none
  | _, _, _ => none

/-- May two values of the type be compared cell by cell? Which cells? -/
def flatEq (P : Program) : Nat → TypeId → Option (List CK)
  | 0, _ => none
  | d + 1, t => match P.underlying t with
    | some .bool => some [.b]
    | some (.int _) => some [.i]
    | some .string => some [.s]
    | some (.struct fs) => if P.stoodInHeld t then none else
        fs.toList.foldl (fun acc f => match acc, flatEq P d f.type with
          | some n, some m => if f.name ≠ "_" ∧ f.offset = n.length ∧ 1 ≤ m.length ∧ (P.info? f.type).map (·.size) = some m.length then some (n ++ m) else none
          | _, _ => none) (some [])
    | some (.array n e) => (flatEq P d e).bind fun m => if 1 ≤ m.length ∧ (P.info? e).map (·.size) = some m.length then some (List.replicate n m).flatten else none
    | _ => none

def bytesLess : List UInt8 → List UInt8 → Bool := Op.bytesLess

def evInt (op : BinOp) (k : IntKind) (a b : Int) (K : V → Prop) : Prop :=
  match op with
  | .add => K (.int k (k.wrap (a + b)))
  | .sub => K (.int k (k.wrap (a - b)))
  | .mul => K (.int k (k.wrap (a * b)))
  | .quo => b ≠ 0 ∧ K (.int k (k.wrap (a.tdiv b)))
  | .rem => b ≠ 0 ∧ K (.int k (a.tmod b))
  | .and => K (.int k (k.wrap (BitVec.ofInt k.bits a &&& BitVec.ofInt k.bits b).toNat))
  | .or => K (.int k (k.wrap (BitVec.ofInt k.bits a ||| BitVec.ofInt k.bits b).toNat))
  | .xor => K (.int k (k.wrap (BitVec.ofInt k.bits a ^^^ BitVec.ofInt k.bits b).toNat))
  | .andNot => K (.int k (k.wrap (BitVec.ofInt k.bits a &&& ~~~ BitVec.ofInt k.bits b).toNat))
  | .eql => K (.bool (decide (a = b)))
  | .neq => K (.bool (decide (a ≠ b)))
  | .lss => K (.bool (decide (a < b)))
  | .leq => K (.bool (decide (a ≤ b)))
  | .gtr => K (.bool (decide (b < a)))
  | .geq => K (.bool (decide (b ≤ a)))
  | _ => False

def evStr (op : BinOp) (a b : List UInt8) (K : V → Prop) : Prop :=
  match op with
  | .add => ((a.length + b.length : Nat) : Int) ≤ IntKind.i64.max ∧ K (.str (a ++ b))
  | .eql => K (.bool (decide (a = b)))
  | .neq => K (.bool (decide (a ≠ b)))
  | .lss => K (.bool (bytesLess a b))
  | .leq => K (.bool (bytesLess a b || decide (a = b)))
  | .gtr => K (.bool !(bytesLess a b || decide (a = b)))
  | .geq => K (.bool !bytesLess a b)
  | _ => False

def evBin (P : Program) (op : BinOp) (t : TypeId) (x y : V) (K : V → Prop) : Prop :=
  match x, y with
  | .im (.int k a), .im (.int k' b) =>
    match op with
    | .shl => 0 ≤ b ∧ K (.int k (k.wrap (a * 2 ^ min b.toNat k.bits)))
    | .shr => 0 ≤ b ∧ K (.int k (a.fdiv (2 ^ min b.toNat k.bits)))
    | _ => k = k' ∧ evInt op k a b K
  | .im (.bool a), .im (.bool b) => P.underlying t = some .bool ∧ match op with
    | .eql => K (.bool (a == b))
    | .neq => K (.bool (a != b))
    | _ => False
  | .str a, .str b => evStr op a b K
  | .agg xs, .agg ys => P.eqGuardType P.depth t = false ∧ match flatEq P 50 t with
    | some ks => aggT P t = true ∧ match op, cellsEq ks xs ys with
      | .eql, some b => K (.bool b)
      | .neq, some b => K (.bool !b)
      | _, _ => False
    | none => False
  | _, _ => False

def evUn (op : UnOp) (x : V) (K : V → Prop) : Prop :=
  match op, x with
  | .not, .im (.bool b) => K (.bool !b)
  | .neg, .im (.int k n) => K (.int k (k.wrap (0 - n)))
  | _, _ => False

def evField (P : Program) (t : TypeId) (f : Nat) (K : V → Prop) : V → Prop
  | .agg cs => match fieldOf P t f with
    | some (off, ft) => evLoadCells P ft (cs.drop off) (fun v => K v.strip)
    | none => False
  | _ => False

def evFieldAddr (P : Program) (t : TypeId) (f : Nat) (K : V → Prop) (x : V) : Prop :=
  match fieldOf P t f with
  | some (fo, ft) => match tk P ft with
    | some (_, n) => 1 ≤ n ∧ match x with
      | .ptr id off => K (.ptr id (off + fo))
      | .rp cs => K (.rp (cs.drop fo))
      | _ => False
    | none => False
  | none => False

def evIndex (P : Program) (t : TypeId) (x i : V) (K : V → Prop) : Prop :=
  match x, i with
  | .agg cs, .im (.int _ n) => match arrOf P t with
    | some (len, e, s) => 0 ≤ n ∧ n < len ∧ evLoadCells P e (cs.drop (n.toNat * s)) (fun v => K v.strip)
    | none => False
  | .str l, .im (.int _ n) => P.underlying t = some .string ∧ 0 ≤ n ∧ ∃ b, l[n.toNat]? = some b ∧ K (.int .u8 b.toNat)
  | _, _ => False

def evIndexAddr (P : Program) (t : TypeId) (x i : V) (K : V → Prop) : Prop :=
  match i with
  | .im (.int _ n) => match slOf P t, arrOf P t with
    | some (_, s, _), _ => match x with
      | .dat es rows _ => es = s ∧ 1 ≤ s ∧ 0 ≤ n ∧ ∃ r, rows[n.toNat]? = some r ∧ K (.rp r)
      | .arr id es len => es = s ∧ 0 ≤ n ∧ n < len ∧ K (.ptr id (n.toNat * s))
      | _ => False
    | none, some (len, _, s) => match x with
      | .ptr id off => 0 ≤ n ∧ n < len ∧ K (.ptr id (off + n.toNat * s))
      | .rp cs => 0 ≤ n ∧ n < len ∧ K (.rp (cs.drop (n.toNat * s)))
      | _ => False
    | _, _ => False
  | _ => False

/-- The rows of some bytes. -/
def byteRows (l : List UInt8) : List (List V) := l.map fun b => [V.int .u8 (b.toNat : Int)]

def evConvert (P : Program) (src dst : TypeId) (x : V) (K : V → Prop) : Prop :=
  match P.underlying src, P.underlying dst, x with
  | some _, some (.int k), .im (.int _ n) => K (.int k (k.wrap n))
  | some .string, some .string, .str l => K (.str l)
  | some (.slice e), some .string, .dat es rows _ => P.underlying e = some (.int .u8) ∧ (rows = [] ∨ es = 1) ∧ ∃ l, rows = byteRows l ∧ K (.str l)
  | _, _, _ => False

def evLen (P : Program) (t : TypeId) (x : V) (K : V → Prop) : Prop :=
  match x with
  | .str l => P.underlying t = some .string ∧ K (.int .i64 l.length)
  | .dat _ rows _ => (slOf P t).isSome = true ∧ K (.int .i64 rows.length)
  | .arr _ _ len => (slOf P t).isSome = true ∧ K (.int .i64 len)
  | _ => False

/-- Which classes occur in the owned blocks. -/
def V.hasCls (c : Nat) : V → Bool
  | .dat _ _ (.cls c') => c == c'
  | _ => false
def Blk.hasCls (c : Nat) : Blk → Bool
  | .cells _ vs => vs.any (V.hasCls c)
  | _ => false
def heapCls (H : Heap) (c : Nat) : Bool := H.any fun b => match b with | some b => b.hasCls c | none => false

/-- The condition of a call. -/
def StCall (P : Program) (G : Nat → Option (List V)) (f : FuncId) (args : List V) (H : Heap) (Ψ : V → Heap → Prop) : Prop :=
  ∀ w e us, RHeap G H w e → Reps w e args us → CallsIn Fence.wide 0 P f us.toArray w fun en w' =>
    ∃ v r H' e', en = .returned v ∧ Ψ r H' ∧ RHeap G H' w' e' ∧ RepF w' e' r v ∧ Ext H w e H' w' e'

def maxBytes : Nat := 2 ^ 47

def notInt (P : Program) (t : TypeId) : Bool := match P.underlying t with | some (.slice _) => true | _ => false

/-- append(x, ys) where the second is a slice of rows. -/
def evAppend (P : Program) (t t' : TypeId) (d : Nat) (x y : V) (σ : St) (k : V → St → Prop) : Prop :=
  match slOf P t with
  | some (el, s, bytes) => match x, y with
    | .dat es rows fl, .dat es' ys _ =>
      notInt P t' = true ∧ 1 ≤ s ∧ ((zeroOf P el).map List.length) = some s ∧ (rows = [] ∨ es = s) ∧ (ys = [] ∨ es' = s) ∧ (∀ r ∈ ys, r.all V.solid = true) ∧
      (rows.length + ys.length) * bytes ≤ maxBytes ∧ rows.length + ys.length ≤ maxBytes ∧
      match fl with
      | .no => False
      | .tight => k (.dat s (rows ++ ys) (.cls d)) σ
      | .cls c => k (.dat s (rows ++ ys) (.cls c)) { σ with tmps := σ.tmps.map (V.demote (· == c)), H := demoteH (· == c) σ.H }
    | _, _ => False
  | none => False

def evBuiltin (P : Program) (b : Builtin) (argTypes : List TypeId) (dst : Option Tmp) (args : List V) (σ : St) (k : V → St → Prop) : Prop :=
  match b, args with
  | .len, [x] => match argTypes with
    | [t] => evLen P t x fun v => k v σ
    | _ => False
  | .append, [x, y] => match argTypes with
    | [t, t'] => evAppend P t t' (dst.getD 0) x y σ k
    | _ => False
  | .min, [.im (.int kd a), .im (.int kd' b)] => kd = kd' ∧ k (.int kd (if b < a then b else a)) σ
  | .max, [.im (.int kd a), .im (.int kd' b)] => kd = kd' ∧ k (.int kd (if b > a then b else a)) σ
  | _, _ => False

/-- A call of yield: a round. -/
def StYield (P : Program) (G : Nat → Option (List V)) (id : Nat) (args : List V) (H : Heap) (Ψ : V → Heap → Prop) : Prop :=
  ∀ w e us, RHeap G H w e → Reps w e args us → ∃ r w1 l f tmps assign body, (Instr.yield (e.ρ id) us.toArray).run P w = r ∧ r = .ok (.round l f tmps assign body) w1 ∧ w1 = w ∧
    RoundIn Fence.wide 0 P l f tmps assign body w fun en w' =>
      ∃ v r H' e', en = .returned v ∧ Ψ r H' ∧ RHeap G H' w' e' ∧ RepF w' e' r v ∧ Ext H w e H' w' e'

def St.afterCall (σ : St) (H' : Heap) : St := { σ with tmps := σ.tmps.map (V.demote (heapCls σ.H)), H := H' }

/-- Are two keys the same? -/
def keyEq : V → V → Option Bool
  | .im (.int k a), .im (.int k' b) => if k = k' then some (decide (a = b)) else none
  | .im (.bool a), .im (.bool b) => some (a == b)
  | .str a, .str b => some (decide (a = b))
  | _, _ => none

/-- May a map have such a key? -/
def keyTy (P : Program) (kt : TypeId) (k : V) : Bool :=
  match P.underlying kt, k with
  | some (.int q), .im (.int q' _) => decide (q' = q)
  | some .bool, .im (.bool _) => true
  | some .string, .str _ => true
  | _, _ => false

/-- A key is looked for. -/
def evFind (k : V) (K : Option (Nat × V) → Prop) : List (V × V) → Nat → Prop
  | [], _ => K none
  | e :: es, i => match keyEq k e.1 with
    | some b => (b = true → K (some (i, e.2))) ∧ (b = false → evFind k K es (i + 1))
    | none => False

def mapOf (P : Program) (t : TypeId) : Option (TypeId × TypeId) :=
  match P.underlying t with
  | some (.map k e) => some (k, e)
  | _ => none

def zero1 (P : Program) (t : TypeId) : Option V :=
  match (P.info? t).bind (·.zero) with
  | some (.agg _) => none
  | some v => some (absV v)
  | none => none

def evInsert (P : Program) (t : TypeId) (key x : V) (σ : St) (K : St → Prop) : V → Prop
  | .mp id => match σ.H[id]?, mapOf P t with
    | some (some (.map es c)), some (kt, _) => keyTy P kt key = true ∧ evFind key (fun r => match r with
      | none => K { σ with H := σ.H.set id (some (.map (es ++ [(key, x)]) (c + 1))) }
      | some (i, _) => K { σ with H := σ.H.set id (some (.map (es.set i (key, x)) c)) }) es 0
    | _, _ => False
  | _ => False

def evLookup (P : Program) (t : TypeId) (key : V) (ok : Bool) (σ : St) (K : V → Prop) : V → Prop
  | .mp id => match σ.H[id]?, mapOf P t with
    | some (some (.map es _)), some (kt, et) => match zero1 P et with
      | some z => keyTy P kt key = true ∧ evFind key (fun r => match ok with
        | true => match r with
          | none => K (.tup [z, .bool false])
          | some (_, v) => K (.tup [v, .bool true])
        | false => match r with
          | none => K z.strip
          | some (_, v) => K v.strip) es 0
      | none => False
    | _, _ => False
  | _ => False

def evRange (P : Program) (t : TypeId) (σ : St) (k : V → St → Prop) : V → Prop
  | .mp id => match σ.H[id]?, mapOf P t with
    | some (some (.map _ c)), some _ => k (.ptr σ.H.length 0) { σ with H := σ.H ++ [some (.iter id c c [])] }
    | _, _ => False
  | _ => False

def evNext (σ : St) (k : V → St → Prop) : V → Prop
  | .ptr id 0 => match σ.H[id]? with
    | some (some (.iter m since stepped seen)) => match σ.H[m]? with
      | some (some (.map es c)) => (Nat.ble c since && Nat.ble since stepped) = true ∧
        ((∀ (i : Nat), i < es.length → i ∈ seen) → k (.tup [.bool false]) σ) ∧
        (∀ (i : Nat) (x : V × V), es[i]? = some x → ¬ i ∈ seen → k (.tup [.bool true, x.1, x.2]) { σ with H := σ.H.set id (some (.iter m since c (seen ++ [i]))) })
      | _ => False
    | _ => False
  | _ => False

def evEntry (σ : St) (k : V → Prop) : V → Prop
  | .ptr id 0 => match σ.H[id]? with
    | some (some (.iter m _ stepped seen)) => match σ.H[m]?, seen.getLast? with
      | some (some (.map es c)), some i => Nat.beq c stepped = true ∧ match es[i]? with
        | some x => k (.tup [x.1, x.2])
        | none => False
      | _, _ => False
    | _ => False
  | _ => False

/-- The place of a package's variable of which the cells are known. -/
def asRp (G : Nat → Option (List V)) (v : V) : V :=
  match v with
  | .im (.pointer (some ⟨g, 0, none⟩)) => match G g with
    | some cs => .rp cs
    | none => v
  | v => v

theorem asRp_repF {G : Nat → Option (List V)} {H : Heap} {w : World} {e : Env} (hR : RHeap G H w e) {v : V} {u : Value} (h : RepF w e v u) : RepF w e (asRp G v) u := by
  unfold asRp
  split
  · rename_i g
    split
    · rename_i cs hg
      have hu : u = .pointer (some ⟨g, 0, none⟩) := by
        cases h.1 with
        | im => rfl
      subst hu
      exact ⟨hR.glob g cs hg, trivial⟩
    · exact h
  · exact h

def evOp (P : Program) (G : Nat → Option (List V)) (o : Oper) (σ : St) (k : V → St → Prop) : Prop :=
  match o.op with
  | .move x | .assign x => k (σ.ev x) σ
  | .alloc t => match zeroOf P t with
    | some cs => k (.ptr σ.H.length 0) { σ with H := σ.H ++ [some (.cells t cs)] }
    | none => False
  | .box t x => match (σ.ev x).cellsF with
    | some cs => k (.ptr σ.H.length 0) { σ with H := σ.H ++ [some (.cells t cs)] }
    | none => False
  | .build t parts => evBuild P t (parts.toList.map fun (i, x) => (i, σ.ev x)) fun v => k v σ
  | .buildSlice t len parts => evBuildSlice P t len (parts.toList.map fun (i, x) => (i, σ.ev x)) fun v => k v σ
  | .load t a => evLoad P t σ (fun v => k v σ) (asRp G (σ.ev a))
  | .store t a x => evStore P t σ (σ.ev x) (fun σ' => k (.tup []) σ') (σ.ev a)
  | .nilCheck x => match σ.ev x with
    | .ptr id off => k (.ptr id off) σ
    | .rp cs => k (.rp cs) σ
    | .fn (.func f) a b => k (.fn (.func f) a b) σ
    | .yld id => k (.yld id) σ
    | _ => False
  | .binOp op t x y _ => evBin P op t (σ.ev x) (σ.ev y) fun v => k v σ
  | .unOp op _ x => evUn op (σ.ev x) fun v => k v σ
  | .convert src dst x => evConvert P src dst (σ.ev x) fun v => k v σ
  | .makeFunc fn a b => k (.fn fn (a.toList.map σ.ev) (b.toList.map σ.ev)) σ
  | .fieldAddr t x f => evFieldAddr P t f (fun v => k v σ) (asRp G (σ.ev x))
  | .field t x f => evField P t f (fun v => k v σ) (σ.ev x)
  | .index t x i => evIndex P t (σ.ev x) (σ.ev i) fun v => k v σ
  | .indexAddr t x i => evIndexAddr P t (asRp G (σ.ev x)) (σ.ev i) fun v => k v σ
  | .pick c x y => match σ.ev c with
    | .im (.bool t) => (t = true → k (σ.ev x) σ) ∧ (t = false → k (σ.ev y) σ)
    | _ => False
  | .extract x i => match σ.ev x with
    | .tup vs => match vs[i]? with
      | some v => k v.strip σ
      | none => False
    | _ => False
  | .makeMap _ none => k (.mp σ.H.length) { σ with H := σ.H ++ [some (.map [] 0)] }
  | .mapUpdate t m x y | .insert t m x y => evInsert P t (σ.ev x) (σ.ev y) σ (fun σ' => k (.tup []) σ') (σ.ev m)
  | .lookup t x i ok => evLookup P t (σ.ev i) ok σ (fun v => k v σ) (σ.ev x)
  | .range t x => evRange P t σ k (σ.ev x)
  | .next x false => evNext σ k (σ.ev x)
  | .entry x => evEntry σ (fun v => k v σ) (σ.ev x)
  | .call c => match c.callee with
    | .builtin b => evBuiltin P b c.argTypes.toList o.dst (c.args.toList.map σ.ev) σ k
    | .value f => match σ.ev f with
      | .fn (.func g) a b => (∃ fn, P.funcs[g]? = some fn ∧ fn.body.isSome ∧ (fn.name == "runtime.NumGoroutine") = false) ∧
          StCall P G g ((a ++ (c.args.toList.map σ.ev) ++ b).map V.strip) σ.H fun r H' => k r (σ.afterCall H')
      | .yld id => StYield P G id ((c.args.toList.map σ.ev).map V.strip) σ.H fun r H' => k r (σ.afterCall H')
      | _ => False
    | _ => False
  | _ => False

/-- The temporary gets its value. -/
def St.put (σ : St) (d : Option Tmp) (v : V) : St :=
  match d with
  | some d => { σ with tmps := σ.tmps.set d v }
  | none => σ

def yieldedV (ops : List Oper) (σ : St) (j : Nat) : Option V :=
  match (ops[j]?).bind (·.dst) with
  | some d => σ.tmps[d]?
  | none => none

def evOps (P : Program) (G : Nat → Option (List V)) (all : List Oper) : List Oper → St → (St → Prop) → Prop
  | [], σ, k => k σ
  | o :: rest, σ, k =>
    match o.guard with
    | none => evOp P G o σ fun v σ' => evOps P G all rest (σ'.put o.dst v) k
    | some (j, want) => match yieldedV all σ j with
      | some (.im (.bool b)) => (b = want → evOp P G o σ fun v σ' => evOps P G all rest (σ'.put o.dst v) k) ∧
          (b ≠ want → evOps P G all rest (σ.put o.dst (.tup [])) k)
      | some (.tup []) => evOps P G all rest (σ.put o.dst (.tup [])) k
      | _ => False

def FW (ro : Option Nat) : Fence := { Fence.wide with round := ro }

structure RSt (G : Nat → Option (List V)) (σ : St) (a : Act) (w : World) (e : Env) : Prop where
  heap : RHeap G σ.H w e
  tmps : Reps w e σ.tmps a.tmps.toList
  defs : a.defers = σ.defs.map fun id => { target := .collected (e.ρ id), args := #[] }
  defsN : ∀ id ∈ σ.defs, id < e.N
  cur : ∀ id, σ.cur = some id → id < e.N

/-- The condition of a piece of code. -/
def WPc (P : Program) (G : Nat → Option (List V)) (c : Code) (Φ : Exit → St → Prop) (σ : St) : Prop :=
  ∀ a w e, RSt G σ a w e → c.wpIn (FW (σ.cur.map e.ρ)) 0 P (fun x a' w' => ∃ σ' e', Φ x σ' ∧ σ'.cur = σ.cur ∧ RSt G σ' a' w' e' ∧ Ext σ.H w e σ'.H w' e') a w

def evCode (P : Program) (G : Nat → Option (List V)) : Code → (Exit → St → Prop) → St → Prop
  | .skip, Φ, σ => Φ .normal σ
  | .region id ops d, Φ, σ => match d with
    | false => evOps P G ops.toList ops.toList σ (Φ .normal)
    | true => WPc P G (.region id ops true) Φ σ
  | .seq a b, Φ, σ => evCode P G a (fun x σ' => match x with
    | .normal => evCode P G b Φ σ'
    | x => Φ x σ') σ
  | .cond c a b, Φ, σ => match σ.ev c with
    | .im (.bool t) => (t = true → evCode P G a Φ σ) ∧ (t = false → evCode P G b Φ σ)
    | _ => False
  | .block id c, Φ, σ => evCode P G c (fun x σ' => match x with
    | .exit i => if i = id then Φ .normal σ' else Φ (.exit i) σ'
    | x => Φ x σ') σ
  | .loop c, Φ, σ => WPc P G (.loop c) Φ σ
  | .rangeFunc f ps a c, Φ, σ => WPc P G (.rangeFunc f ps a c) Φ σ
  | .exit id, Φ, σ => Φ (.exit id) σ
  | .scope c, Φ, σ => WPc P G (.scope c) Φ σ
  | .label _, Φ, σ => Φ .normal σ
  | .goto l, Φ, σ => Φ (.goto l) σ
  | .ret, Φ, σ => Φ .ret σ
  | .refuse _, _, _ => False

end Go.Abs
