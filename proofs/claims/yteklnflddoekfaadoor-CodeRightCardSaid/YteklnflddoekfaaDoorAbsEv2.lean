/- The same conditions, laid out so that reduction alone works them out. -/
import Derived.Test.YteklnflddoekfaaDoorAbsSound16
namespace Go.Abs
open Go.RowKit

/-- A condition that reduction settles. -/
def grd (b : Bool) (p : Prop) : Prop := match b with | true => p | false => False
theorem grd_iff {b : Bool} {p : Prop} : grd b p ↔ b = true ∧ p := by cases b <;> simp [grd]
theorem grd_intro {b : Bool} {p : Prop} (h1 : b = true) (h2 : p) : grd b p := grd_iff.2 ⟨h1, h2⟩

/-- A fork. -/
def br (b : Bool) (p q : Prop) : Prop := match b with | true => p | false => q
theorem br_iff {b : Bool} {p q : Prop} : br b p q ↔ (b = true → p) ∧ (b = false → q) := by cases b <;> simp [br]
theorem br_intro {b : Bool} {p q : Prop} (h1 : b = true → p) (h2 : b = false → q) : br b p q := br_iff.2 ⟨h1, h2⟩

theorem br_t {b : Bool} {p q : Prop} (h : b = true) (hp : p) : br b p q := br_intro (fun _ => hp) (fun h' => by rw [h] at h'; cases h')
theorem br_f {b : Bool} {p q : Prop} (h : b = false) (hq : q) : br b p q := br_intro (fun h' => by rw [h] at h'; cases h') (fun _ => hq)

/-- A value, its head worked out. -/
def force (v : V) (k : V → Prop) : Prop :=
  match v with
  | .im x => k (.im x)
  | .str l => k (.str l)
  | .ptr i o => k (.ptr i o)
  | .rp cs => k (.rp cs)
  | .dat e r f => k (.dat e r f)
  | .arr i e l => k (.arr i e l)
  | .fn f a b => k (.fn f a b)
  | .mp i => k (.mp i)
  | .yld i => k (.yld i)
  | .agg cs => k (.agg cs)
  | .tup vs => k (.tup vs)
  | .bad => k .bad
theorem force_iff {v : V} {k : V → Prop} : force v k ↔ k v := by cases v <;> rfl

structure S2 where
  n : Nat
  base : List V
  upd : List (Nat × V)
  H : Heap
  defs : List Nat
  cur : Option Nat

def app : List (Nat × V) → List V → List V
  | [], b => b
  | (d, v) :: r, b => (app r b).set d v

def S2.st (s : S2) : St := { tmps := app s.upd s.base, H := s.H, defs := s.defs, cur := s.cur }

def S2.setH (s : S2) (H : Heap) : S2 := match s with | ⟨n, b, u, _, d, c⟩ => ⟨n, b, u, H, d, c⟩
theorem S2.setH_eq (s : S2) (H : Heap) : s.setH H = { s with H := H } := by cases s; rfl

theorem S2.setH_H (s : S2) (H : Heap) : (s.setH H).H = H := by cases s; rfl

structure S2.Wf (s : S2) : Prop where
  n : s.n ≤ s.base.length
  d : ∀ x ∈ s.upd, x.1 < s.base.length

def look : List (Nat × V) → List V → Nat → V
  | [], b, t => b.getD t .bad
  | (d, v) :: r, b, t => match Nat.beq d t with | true => v | false => look r b t

theorem app_length : ∀ (u : List (Nat × V)) (b : List V), (app u b).length = b.length
  | [], _ => rfl
  | _ :: r, b => by simp [app, app_length r b]

theorem look_eq (n : Nat) (b : List V) (hn : n ≤ b.length) (t : Nat) : ∀ u : List (Nat × V), (∀ x ∈ u, x.1 < n) → (app u b).getD t .bad = look u b t
  | [], _ => rfl
  | (d, v) :: r, h => by
    have hd : d < n := h (d, v) (by simp)
    have ih := look_eq n b hn t r fun x hx => h x (by simp [hx])
    simp only [app, look]
    by_cases he : d = t
    · subst he
      rw [Nat.beq_refl, List.getD_eq_getElem?_getD, List.getElem?_set_self (by rw [app_length]; omega)]
      rfl
    · have : Nat.beq d t = false := by
        cases hb : Nat.beq d t with
        | false => rfl
        | true => exact absurd (Nat.eq_of_beq_eq_true hb) he
      rw [this, List.getD_eq_getElem?_getD, List.getElem?_set_ne he, ← List.getD_eq_getElem?_getD]
      exact ih

def S2.ev (s : S2) : Operand → V
  | .tmp t => look s.upd s.base t
  | .const v => absV v
  | .global g => .im (.pointer (some ⟨g, 0, none⟩))
  | .func f => .fn (.func f) [] []

theorem S2.ev_eq {s : S2} (h : s.Wf) (x : Operand) : s.st.ev x = s.ev x := by
  cases x with
  | tmp t => exact look_eq s.base.length s.base (Nat.le_refl _) t s.upd h.d
  | _ => rfl

def V.isCls : V → Bool
  | .dat _ _ (.cls _) => true
  | _ => false

def S2.hasFl (s : S2) : Bool := s.upd.any (fun x => x.2.isCls) || s.base.any V.isCls

def S2.dem (s : S2) (p : Nat → Bool) : S2 := match s.hasFl with
  | false => s
  | true => match s with | ⟨n, b, u, H, d, c⟩ => ⟨n, b.map (V.demote p), u.map fun x => (x.1, V.demote p x.2), H, d, c⟩

theorem demote_plain {v : V} (h : v.isCls = false) (p : Nat → Bool) : V.demote p v = v := by
  cases v with
  | dat es rows fl => cases fl with
    | cls c => simp [V.isCls] at h
    | _ => rfl
  | _ => rfl

theorem app_map (f : V → V) : ∀ (u : List (Nat × V)) (b : List V), app (u.map fun x => (x.1, f x.2)) (b.map f) = (app u b).map f
  | [], _ => rfl
  | _ :: r, b => by simp [app, app_map f r b, List.map_set]

theorem S2.dem_st {s : S2} (p : Nat → Bool) : (s.dem p).st = { s.st with tmps := s.st.tmps.map (V.demote p) } := by
  unfold S2.dem
  split
  · rename_i h
    unfold S2.hasFl at h
    simp only [Bool.or_eq_false_iff] at h
    obtain ⟨h1, h2⟩ := h
    have hb : s.base.map (V.demote p) = s.base := by
      rw [List.any_eq_false] at h2
      refine (List.map_congr_left fun v hv => demote_plain (by simpa using h2 v hv) p).trans ?_
      simp
    have hu : (s.upd.map fun x => (x.1, V.demote p x.2)) = s.upd := by
      rw [List.any_eq_false] at h1
      refine (List.map_congr_left (g := fun x => x) fun x hx => by rw [demote_plain (by simpa using h1 x hx) p]).trans ?_
      simp
    unfold S2.st
    simp only
    rw [← app_map, hb, hu]
  · simp only [S2.st, app_map]

theorem S2.dem_wf {s : S2} (h : s.Wf) (p : Nat → Bool) : (s.dem p).Wf := by
  unfold S2.dem
  split
  · exact h
  · refine ⟨by simpa using h.n, fun x hx => ?_⟩
    simp only [List.mem_map] at hx
    obtain ⟨y, hy, rfl⟩ := hx
    simpa using h.d y hy

/-! ### the conditions -/
def evLoadCells2 (P : Program) (t : TypeId) (vs : List V) (k : V → Prop) : Prop :=
  match tk P t with
  | some (true, n) => grd (Nat.ble n vs.length) (k (.agg (vs.take n)))
  | some (false, _) => match vs with
    | v :: _ => k v
    | [] => False
  | none => False

theorem evLoadCells2_imp {P : Program} {t : TypeId} {vs : List V} {k : V → Prop} (h : evLoadCells2 P t vs k) : evLoadCells P t vs k := by
  unfold evLoadCells2 at h
  unfold evLoadCells
  cases ht : tk P t with
  | none => simp [ht] at h
  | some x =>
    obtain ⟨b, n⟩ := x
    simp only [ht] at h ⊢
    cases b with
    | true => simpa [grd_iff, Nat.ble_eq] using h
    | false => cases vs <;> exact h

def evLoad2 (P : Program) (t : TypeId) (H : Heap) (k : V → Prop) : V → Prop
  | .ptr id off => match H[id]? with
    | some (some (.cells _ vs)) => evLoadCells2 P t (vs.drop off) k
    | _ => False
  | .rp cs => evLoadCells2 P t cs (fun v => k v.strip)
  | _ => False

theorem evLoad2_imp {P : Program} {t : TypeId} {σ : St} {k : V → Prop} {x : V} (h : evLoad2 P t σ.H k x) : evLoad P t σ k x := by
  cases x with
  | ptr id off =>
    simp only [evLoad2] at h
    simp only [evLoad]
    split at h
    · rename_i hH
      simp only [hH]
      exact evLoadCells2_imp h
    · exact h.elim
  | rp cs => exact evLoadCells2_imp (k := fun v => k v.strip) h
  | _ => exact h.elim

def evStore2 (P : Program) (t : TypeId) (H : Heap) (x : V) (k : Heap → Prop) : V → Prop
  | .ptr id off => match H[id]? with
    | some (some (.cells e vs)) => match x.cellsF, tk P t with
      | some cs, some (_, n) => grd (Nat.beq cs.length n && Nat.ble (off + n) vs.length && cs.all V.solid) (k (H.set id (some (.cells e (setRange vs off cs)))))
      | _, _ => False
    | _ => False
  | _ => False

theorem evStore2_imp {P : Program} {t : TypeId} {σ : St} {v : V} {k : St → Prop} {x : V} (h : evStore2 P t σ.H v (fun H => k { σ with H := H }) x) : evStore P t σ v k x := by
  cases x with
  | ptr id off =>
    simp only [evStore2] at h
    simp only [evStore]
    split at h
    · rename_i hH
      simp only [hH]
      split at h
      · rename_i h1 h2
        simp only [h1, h2]
        rw [grd_iff, Bool.and_eq_true, Bool.and_eq_true, Nat.ble_eq, Nat.beq_eq] at h
        exact ⟨h.1.1.1, h.1.1.2, h.1.2, h.2⟩
      · exact h.elim
    · exact h.elim
  | _ => exact h.elim

/-- Parts that lie one behind the other. -/
def catV (place : Nat → Option (Nat × Nat)) : Nat → List (Nat × V) → Option (List V)
  | _, [] => some []
  | off, (i, v) :: rest => match place i, v.cellsF with
    | some (o, size), some cs => match Nat.beq o off && Nat.beq cs.length size with
      | true => (catV place (off + size) rest).map (cs ++ ·)
      | false => none
    | _, _ => none

theorem catV_spec (place : Nat → Option (Nat × Nat)) : ∀ (parts : List (Nat × V)) (off : Nat) (cells cs : List V), catV place off parts = some cs → off + cs.length ≤ cells.length →
    fillV place cells parts = some (cells.take off ++ cs ++ cells.drop (off + cs.length))
  | [], off, cells, cs, h, hl => by
    simp only [catV, Option.some.injEq] at h
    subst h
    simp [fillV]
  | (i, v) :: rest, off, cells, cs, h, hl => by
    simp only [catV] at h
    split at h
    · rename_i o size cs0 hp hc
      split at h
      · rename_i hb
        rw [Bool.and_eq_true, Nat.beq_eq, Nat.beq_eq] at hb
        obtain ⟨rfl, rfl⟩ := hb
        obtain ⟨cs1, h1, rfl⟩ := Option.map_eq_some_iff.1 h
        simp only [List.length_append] at hl
        have hlen : (setRange cells o cs0).length = cells.length := setRange_length (by omega)
        have ih := catV_spec place rest (o + cs0.length) (setRange cells o cs0) cs1 h1 (by omega)
        unfold fillV
        rw [hp, hc]
        simp only
        rw [if_pos (by simp; omega), ih]
        congr 1
        have hto : (List.take o cells).length = o := by simp; omega
        have h2 : (setRange cells o cs0).take (o + cs0.length) = cells.take o ++ cs0 := by
          unfold setRange
          rw [List.take_append_of_le_length (by simp; omega), List.take_of_length_le (by simp; omega)]
        have h3 : (setRange cells o cs0).drop (o + cs0.length + cs1.length) = cells.drop (o + (cs0.length + cs1.length)) := by
          unfold setRange
          have : o + cs0.length + cs1.length = (List.take o cells ++ cs0).length + cs1.length := by simp [hto]
          rw [this, List.drop_append]
          simp only [List.drop_drop]
          have h4 : (List.take o cells ++ cs0).drop ((List.take o cells ++ cs0).length + cs1.length) = [] := List.drop_of_length_le (by omega)
          rw [h4, List.nil_append]
          congr 1
          omega
        rw [h2, h3]
        simp [List.append_assoc]
      · cases h
    · cases h

def evBuild2 (P : Program) (t : TypeId) (parts : List (Nat × V)) (k : V → Prop) : Prop :=
  match placesOf P t, zeroOf P t with
  | some pl, some z => match catV pl 0 parts with
    | some cs => match Nat.beq cs.length z.length with
      | true => k (.agg cs)
      | false => match fillV pl z parts with
        | some cs => k (.agg cs)
        | none => False
    | none => match fillV pl z parts with
      | some cs => k (.agg cs)
      | none => False
  | _, _ => False

theorem evBuild2_imp {P : Program} {t : TypeId} {parts : List (Nat × V)} {k : V → Prop} (h : evBuild2 P t parts k) : evBuild P t parts k := by
  unfold evBuild2 at h
  unfold evBuild
  split at h
  · rename_i pl z h1 h2
    simp only [h1, h2]
    split at h
    · rename_i cs hc
      split at h
      · rename_i hb
        rw [Nat.beq_eq] at hb
        have := catV_spec pl parts 0 z cs hc (by omega)
        rw [this]
        have hd : z.drop (0 + cs.length) = [] := by rw [hb, Nat.zero_add]; exact List.drop_length
        rw [hd]
        simpa using h
      · exact h
    · exact h
  · exact h.elim

def evBuildSlice2 (P : Program) (t : TypeId) (len : Nat) (parts : List (Nat × V)) (k : V → Prop) : Prop :=
  match slOf P t with
  | some (e, n, _) => match zeroOf P e with
    | some z => grd (Nat.beq z.length n && Nat.ble 1 n && Nat.ble (len * n) (2 ^ 24)) (
      match catV (fun i => some (i * n, n)) 0 parts with
      | some cs => match Nat.beq cs.length (len * n) with
        | true => grd (cs.all V.dataCell) (k (.dat n (chunks n len cs) .tight))
        | false => match fillV (fun i => some (i * n, n)) (List.replicate len z).flatten parts with
          | some cs => grd (cs.all V.dataCell) (k (.dat n (chunks n len cs) .tight))
          | none => False
      | none => match fillV (fun i => some (i * n, n)) (List.replicate len z).flatten parts with
        | some cs => grd (cs.all V.dataCell) (k (.dat n (chunks n len cs) .tight))
        | none => False)
    | none => False
  | none => False

theorem evBuildSlice2_imp {P : Program} {t : TypeId} {len : Nat} {parts : List (Nat × V)} {k : V → Prop} (h : evBuildSlice2 P t len parts k) : evBuildSlice P t len parts k := by
  unfold evBuildSlice2 at h
  unfold evBuildSlice
  split at h
  · rename_i e n b h1
    simp only [h1]
    split at h
    · rename_i z h2
      simp only [h2]
      rw [grd_iff, Bool.and_eq_true, Bool.and_eq_true, Nat.ble_eq, Nat.ble_eq, Nat.beq_eq] at h
      refine ⟨h.1.1.1, h.1.1.2, h.1.2, ?_⟩
      have hz := h.1.1.1
      have h := h.2
      have fin : (match fillV (fun i => some (i * n, n)) (List.replicate len z).flatten parts with
        | some cs => grd (cs.all V.dataCell) (k (.dat n (chunks n len cs) .tight))
        | none => False) → (match fillV (fun i => some (i * n, n)) (List.replicate len z).flatten parts with
        | some cs => cs.all V.dataCell = true ∧ k (.dat n (chunks n len cs) .tight)
        | none => False) := by
        intro h
        split at h
        · rename_i h3
          try simp only [h3]
          exact grd_iff.1 h
        · exact h.elim
      split at h
      · rename_i cs hc
        split at h
        · rename_i hb
          rw [Nat.beq_eq] at hb
          have hlz : (List.replicate len z).flatten.length = len * n := by
            rw [List.length_flatten, List.map_replicate, List.sum_replicate_nat, hz]
          have := catV_spec _ parts 0 (List.replicate len z).flatten cs hc (by rw [hlz]; omega)
          rw [this]
          have hd : (List.replicate len z).flatten.drop (0 + cs.length) = [] := by rw [hb, Nat.zero_add, ← hlz]; exact List.drop_length
          rw [hd]
          simpa [grd_iff] using h
        · exact fin h
      · exact fin h
    · exact h.elim
  · exact h.elim

def kindEq (k k' : IntKind) : Bool := decide (k = k')

def evBin2 (P : Program) (op : BinOp) (t : TypeId) (x y : V) (K : V → Prop) : Prop :=
  match x, y with
  | .im (.int k a), .im (.int k' b) =>
    match op with
    | .shl => 0 ≤ b ∧ K (.int k (k.wrap (a * 2 ^ min b.toNat k.bits)))
    | .shr => 0 ≤ b ∧ K (.int k (a.fdiv (2 ^ min b.toNat k.bits)))
    | _ => grd (kindEq k k') (evInt op k a b K)
  | .im (.bool a), .im (.bool b) => match P.underlying t, op with
    | some .bool, .eql => K (.bool (a == b))
    | some .bool, .neq => K (.bool (a != b))
    | _, _ => False
  | .str a, .str b => evStr op a b K
  | .agg xs, .agg ys => grd (!P.eqGuardType P.depth t && aggT P t) (match flatEq P 50 t with
    | some ks => match cellsEq ks xs ys, op with
      | some b, .eql => K (.bool b)
      | some b, .neq => K (.bool !b)
      | _, _ => False
    | none => False)
  | _, _ => False

theorem evBin2_imp {P : Program} {op : BinOp} {t : TypeId} {x y : V} {K : V → Prop} (h : evBin2 P op t x y K) : evBin P op t x y K := by
  unfold evBin2 at h
  unfold evBin
  split at h
  · split at h
    · exact h
    · exact h
    · rename_i h1 h2
      rw [grd_iff] at h
      have := h.1
      simp only [kindEq, decide_eq_true_eq] at this
      have h2' := h.2
      cases op <;> first | exact (h1 rfl).elim | exact (h2 rfl).elim | exact ⟨this, h2'⟩
  · split at h
    · rename_i hu; exact ⟨hu, h⟩
    · rename_i hu; exact ⟨hu, h⟩
    · exact h.elim
  · exact h
  · rw [grd_iff, Bool.and_eq_true] at h
    obtain ⟨⟨h1, h2⟩, h3⟩ := h
    refine ⟨by simpa using h1, ?_⟩
    split at h3
    · rename_i ks hk
      simp only [hk]
      refine ⟨h2, ?_⟩
      split at h3
      · rename_i b hc; simp only [hc]; exact h3
      · rename_i b hc; simp only [hc]; exact h3
      · exact h3.elim
    · exact h3.elim
  · exact h.elim

def evField2 (P : Program) (t : TypeId) (f : Nat) (K : V → Prop) : V → Prop
  | .agg cs => match fieldOf P t f with
    | some (off, ft) => evLoadCells2 P ft (cs.drop off) (fun v => K v.strip)
    | none => False
  | _ => False
theorem evField2_imp {P : Program} {t : TypeId} {f : Nat} {K : V → Prop} {x : V} (h : evField2 P t f K x) : evField P t f K x := by
  cases x with
  | agg cs =>
    simp only [evField2] at h
    simp only [evField]
    split at h
    · rename_i h1
      simp only [h1]
      exact evLoadCells2_imp h
    · exact h.elim
  | _ => exact h.elim

def evFieldAddr2 (P : Program) (t : TypeId) (f : Nat) (K : V → Prop) (x : V) : Prop :=
  match fieldOf P t f with
  | some (fo, ft) => match tk P ft with
    | some (_, n) => grd (Nat.ble 1 n) (match x with
      | .ptr id off => K (.ptr id (off + fo))
      | .rp cs => K (.rp (cs.drop fo))
      | _ => False)
    | none => False
  | none => False
theorem evFieldAddr2_imp {P : Program} {t : TypeId} {f : Nat} {K : V → Prop} {x : V} (h : evFieldAddr2 P t f K x) : evFieldAddr P t f K x := by
  unfold evFieldAddr2 at h
  unfold evFieldAddr
  split at h
  · rename_i h1
    simp only [h1]
    split at h
    · rename_i h2
      simp only [h2]
      rw [grd_iff, Nat.ble_eq] at h
      refine ⟨h.1, ?_⟩
      have h := h.2
      cases x <;> exact h
    · exact h.elim
  · exact h.elim

def optK {α : Type} (o : Option α) (K : α → Prop) : Prop := match o with
  | some b => K b
  | none => False
theorem optK_intro {α : Type} {o : Option α} {K : α → Prop} {b : α} (h : o = some b) (hk : K b) : optK o K := by
  rw [h]; exact hk
theorem optK_elim {α : Type} {o : Option α} {K : α → Prop} (h : optK o K) : ∃ b, o = some b ∧ K b := by
  cases o with
  | none => exact h.elim
  | some b => exact ⟨b, rfl, h⟩

def evIndex2 (P : Program) (t : TypeId) (x i : V) (K : V → Prop) : Prop :=
  match x, i with
  | .agg cs, .im (.int _ n) => match arrOf P t with
    | some (len, e, s) => grd (decide (0 ≤ n) && decide (n < len)) (evLoadCells2 P e (cs.drop (n.toNat * s)) (fun v => K v.strip))
    | none => False
  | .str l, .im (.int _ n) => match P.underlying t with
    | some .string => grd (decide (0 ≤ n)) (optK l[n.toNat]? fun b => K (.int .u8 b.toNat))
    | _ => False
  | _, _ => False
theorem evIndex2_imp {P : Program} {t : TypeId} {x i : V} {K : V → Prop} (h : evIndex2 P t x i K) : evIndex P t x i K := by
  unfold evIndex2 at h
  unfold evIndex
  split at h
  · split at h
    · rename_i h1
      simp only [h1]
      rw [grd_iff, Bool.and_eq_true, decide_eq_true_eq, decide_eq_true_eq] at h
      exact ⟨h.1.1, h.1.2, evLoadCells2_imp h.2⟩
    · exact h.elim
  · split at h
    · rename_i h1
      rw [grd_iff, decide_eq_true_eq] at h
      refine ⟨h1, h.1, ?_⟩
      exact optK_elim h.2
    · exact h.elim
  · exact h.elim

def evIndexAddr2 (P : Program) (t : TypeId) (x i : V) (K : V → Prop) : Prop :=
  match i with
  | .im (.int _ n) => match slOf P t, arrOf P t with
    | some (_, s, _), _ => match x with
      | .dat es rows _ => grd (Nat.beq es s && Nat.ble 1 s && decide (0 ≤ n)) (optK rows[n.toNat]? fun r => K (.rp r))
      | .arr id es len => grd (Nat.beq es s && decide (0 ≤ n) && decide (n < len)) (K (.ptr id (n.toNat * s)))
      | _ => False
    | none, some (len, _, s) => match x with
      | .ptr id off => grd (decide (0 ≤ n) && decide (n < len)) (K (.ptr id (off + n.toNat * s)))
      | .rp cs => grd (decide (0 ≤ n) && decide (n < len)) (K (.rp (cs.drop (n.toNat * s))))
      | _ => False
    | _, _ => False
  | _ => False
theorem evIndexAddr2_imp {P : Program} {t : TypeId} {x i : V} {K : V → Prop} (h : evIndexAddr2 P t x i K) : evIndexAddr P t x i K := by
  unfold evIndexAddr2 at h
  unfold evIndexAddr
  split at h
  · split at h
    · rename_i h1
      simp only [h1]
      split at h
      · rw [grd_iff, Bool.and_eq_true, Bool.and_eq_true, Nat.ble_eq, Nat.beq_eq, decide_eq_true_eq] at h
        exact ⟨h.1.1.1, h.1.1.2, h.1.2, optK_elim h.2⟩
      · rw [grd_iff, Bool.and_eq_true, Bool.and_eq_true, Nat.beq_eq, decide_eq_true_eq, decide_eq_true_eq] at h
        exact ⟨h.1.1.1, h.1.1.2, h.1.2, h.2⟩
      · exact h.elim
    · rename_i h1 h2
      simp only [h1, h2]
      split at h
      · rw [grd_iff, Bool.and_eq_true, decide_eq_true_eq, decide_eq_true_eq] at h
        exact ⟨h.1.1, h.1.2, h.2⟩
      · rw [grd_iff, Bool.and_eq_true, decide_eq_true_eq, decide_eq_true_eq] at h
        exact ⟨h.1.1, h.1.2, h.2⟩
      · exact h.elim
    · exact h.elim
  · exact h.elim

def evLen2 (P : Program) (t : TypeId) (x : V) (K : V → Prop) : Prop :=
  match x with
  | .str l => match P.underlying t with
    | some .string => K (.int .i64 l.length)
    | _ => False
  | .dat _ rows _ => grd (slOf P t).isSome (K (.int .i64 rows.length))
  | .arr _ _ len => grd (slOf P t).isSome (K (.int .i64 len))
  | _ => False
theorem evLen2_imp {P : Program} {t : TypeId} {x : V} {K : V → Prop} (h : evLen2 P t x K) : evLen P t x K := by
  unfold evLen2 at h
  unfold evLen
  split at h
  · split at h
    · rename_i hu; exact ⟨hu, h⟩
    · exact h.elim
  · exact grd_iff.1 h
  · exact grd_iff.1 h
  · exact h.elim

end Go.Abs
