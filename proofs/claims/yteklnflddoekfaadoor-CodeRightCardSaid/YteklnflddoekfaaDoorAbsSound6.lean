/- Binary and unary operations, closures, parts, places. -/
import Derived.Test.YteklnflddoekfaaDoorAbsEq
import Derived.Laws.IdiomStrings
namespace Go.Abs
open Go.RowKit

variable {P : Program} {G : Nat → Option (List V)}

theorem agg_inv {w : World} {e : Env} {cs : List V} {u : Value} (h : RepF w e (.agg cs) u) : ∃ us : Array Value, u = .agg us ∧ cs.length = us.size ∧
    ∀ (i : Nat) (v : V) (u : Value), cs[i]? = some v → us[i]? = some u → Rep w e v u := by
  cases h.1 with
  | agg cs us hl hh => exact ⟨us, rfl, hl, hh⟩

theorem run_eqGuard_im (op : BinOp) (t : TypeId) (x y : Operand) (u v : Value) (hu : ∀ us, u ≠ .agg us) (hn : u ≠ .nilIface) (w : World) : (eqGuard op t x y u v).run P w = .ok () w := by
  cases op <;> cases u <;> first
    | rfl
    | (exact absurd rfl (hu _))
    | (exact absurd rfl hn)
    | (cases v <;> rfl)

theorem op_binOp {o : Oper} {σ : St} {a : Act} {w : World} {e : Env} {k : V → St → Prop} (h : RSt G σ a w e) (op : BinOp) (t t' : TypeId) (x y : Operand) (ho : o.op = .binOp op t x y t') (hk : evOp P G o σ k) :
    OpDone P G o σ a w e k := by
  simp only [evOp, ho] at hk
  have hx := h.ev x
  have hy := h.ev y
  have fin : ∀ u v, (eqGuard op t x y (a.eval x) (a.eval y)).run P w = .ok () w → (binOp op t (a.eval x) (a.eval y)).run P w = .ok u w → k v σ → RepF w e v u → OpDone P G o σ a w e k := by
    intro u v hg hr hk hv
    refine opDone_pure h (u := u) ?_ hk hv
    simp only [execOp, ho]
    refine run_value ?_
    rw [Sem.run_bind, hg]
    exact hr
  generalize σ.ev x = vx at hk hx
  generalize σ.ev y = vy at hk hy
  unfold evBin at hk
  split at hk
  · -- two ints
    rename_i k1 n1 k2 n2
    have ex := rep_int hx
    have ey := rep_int hy
    have hg := run_eqGuard_im (P := P) op t x y (a.eval x) (a.eval y) (by rw [ex]; simp) (by rw [ex]; simp) w
    split at hk
    · obtain ⟨h0, hk⟩ := hk
      refine fin _ _ hg ?_ hk (repF_im w e _)
      rw [ex, ey]
      simp only [binOp, Op.shift]
      rw [if_neg (by omega)]
      rfl
    · obtain ⟨h0, hk⟩ := hk
      refine fin _ _ hg ?_ hk (repF_im w e _)
      rw [ex, ey]
      simp only [binOp, Op.shift]
      rw [if_neg (by omega)]
      rfl
    · rename_i hs1 hs2
      obtain ⟨rfl, hk⟩ := hk
      obtain ⟨u, hk, hr⟩ := evInt_run (P := P) t ⟨hs1, hs2⟩ hk w
      exact fin _ _ hg (by rw [ex, ey]; exact hr) hk (repF_im w e _)
  · -- two bools
    rename_i b1 b2
    have ex := rep_im hx
    have ey := rep_im hy
    have hg := run_eqGuard_im (P := P) op t x y (a.eval x) (a.eval y) (by rw [ex]; simp) (by rw [ex]; simp) w
    obtain ⟨ht, hk⟩ := hk
    split at hk
    · refine fin _ _ hg ?_ hk (repF_im w e _)
      rw [ex, ey]
      simp only [binOp]
      rw [Sem.run_bind]
      unfold Op.equal Op.maxDepth
      rw [run_equalIn_bool' w 9999 t _ _ ht]
      rfl
    · refine fin _ _ hg ?_ hk (repF_im w e _)
      rw [ex, ey]
      simp only [binOp]
      rw [Sem.run_bind]
      unfold Op.equal Op.maxDepth
      rw [run_equalIn_bool' w 9999 t _ _ ht]
      rfl
    · exact hk.elim
  · -- two strings
    have ex := rep_str hx
    have ey := rep_str hy
    have hg := run_eqGuard_im (P := P) op t x y (a.eval x) (a.eval y) (by rw [ex]; simp) (by rw [ex]; simp) w
    obtain ⟨u, v, hk, hr, hv⟩ := evStr_run (P := P) t hk w
    exact fin u v hg (by rw [ex, ey]; exact hr) hk (hv e)
  · -- two aggregates
    rename_i xs ys
    obtain ⟨hgd, hk⟩ := hk
    split at hk
    · rename_i ks hks
      obtain ⟨hag, hk⟩ := hk
      obtain ⟨us, ex, hl1, h1⟩ := agg_inv hx
      obtain ⟨vs, ey, hl2, h2⟩ := agg_inv hy
      have hg : (eqGuard op t x y (a.eval x) (a.eval y)).run P w = .ok () w := by
        rw [ex, ey]; exact run_eqGuard_agg w op t x y us vs hgd
      have hmk : ∀ us : Array Value, mkV P t us.toList = .agg us := by
        intro us
        unfold mkV
        unfold aggT at hag
        split at hag <;> rename_i hu <;> first
          | (rw [hu])
          | cases hag
      have heq : ∀ b, cellsEq ks xs ys = some b → (Op.equal t (.agg us) (.agg vs)).run P w = .ok b w := by
        intro b hb
        have hv := valsEq_of ks xs ys us.toList vs.toList b (by simpa using hl1) (by simpa using hl2) (fun i v u hv hu => h1 i v u hv (by simpa using hu)) (fun i v u hv hu => h2 i v u hv (by simpa using hu)) hb
        have := (run_flatEq (P := P) 50 9950 t ks hks us.toList vs.toList b w hv).1
        rw [hmk, hmk] at this
        exact this
      split at hk
      · rename_i b hb
        refine fin _ _ hg ?_ hk (repF_im w e _)
        rw [ex, ey]
        simp only [binOp]
        rw [Sem.run_bind, heq b hb]
        rfl
      · rename_i b hb
        refine fin _ _ hg ?_ hk (repF_im w e _)
        rw [ex, ey]
        simp only [binOp]
        rw [Sem.run_bind, heq b hb]
        rfl
      · exact hk.elim
    · exact hk.elim
  · exact hk.elim

theorem op_unOp {o : Oper} {σ : St} {a : Act} {w : World} {e : Env} {k : V → St → Prop} (h : RSt G σ a w e) (op : UnOp) (t : TypeId) (x : Operand) (ho : o.op = .unOp op t x) (hk : evOp P G o σ k) :
    OpDone P G o σ a w e k := by
  simp only [evOp, ho] at hk
  have hx := h.ev x
  generalize σ.ev x = vx at hk hx
  unfold evUn at hk
  split at hk
  · have ex := rep_im hx
    refine opDone_pure h ?_ hk (repF_im w e _)
    simp only [execOp, ho, ex]
    exact run_value rfl
  · have ex := rep_im hx
    refine opDone_pure h ?_ hk (repF_im w e _)
    simp only [execOp, ho, ex]
    exact run_value rfl
  · exact hk.elim

theorem op_makeFunc {o : Oper} {σ : St} {a : Act} {w : World} {e : Env} {k : V → St → Prop} (h : RSt G σ a w e) (fn : Fn) (x y : Array Operand) (ho : o.op = .makeFunc fn x y) (hk : evOp P G o σ k) :
    OpDone P G o σ a w e k := by
  simp only [evOp, ho] at hk
  refine opDone_pure h (u := .func fn (x.map a.eval) (y.map a.eval)) ?_ hk ⟨.fn _ _ _ _ _ (by simp) (by simp) ?_ ?_, trivial⟩
  · simp only [execOp, ho]
    exact run_value rfl
  · intro i v u hv hu
    rw [List.getElem?_map] at hv
    obtain ⟨p, hp, rfl⟩ := Option.map_eq_some_iff.1 hv
    rw [Array.getElem?_map] at hu
    rw [Array.getElem?_toList] at hp
    rw [hp] at hu
    simp only [Option.map_some, Option.some.injEq] at hu
    subst hu
    exact (h.ev p).1
  · intro i v u hv hu
    rw [List.getElem?_map] at hv
    obtain ⟨p, hp, rfl⟩ := Option.map_eq_some_iff.1 hv
    rw [Array.getElem?_map] at hu
    rw [Array.getElem?_toList] at hp
    rw [hp] at hu
    simp only [Option.map_some, Option.some.injEq] at hu
    subst hu
    exact (h.ev p).1

theorem op_nilCheck {o : Oper} {σ : St} {a : Act} {w : World} {e : Env} {k : V → St → Prop} (h : RSt G σ a w e) (x : Operand) (ho : o.op = .nilCheck x) (hk : evOp P G o σ k) :
    OpDone P G o σ a w e k := by
  simp only [evOp, ho] at hk
  have hx := h.ev x
  have fin : ∀ u v, a.eval x = u → RepF w e v u → k v σ → (∀ m first c, u ≠ .func (.method m) first c) → u ≠ .pointer none → u ≠ .nilIface → u ≠ .nilFunc → OpDone P G o σ a w e k := by
    intro u v hu hv hk h1 h2 h3 h4
    refine opDone_pure h (u := u) ?_ hk hv
    simp only [execOp, ho, hu]
    rfl
  generalize hu : a.eval x = u at hx
  generalize σ.ev x = vx at hk hx
  split at hk
  · refine fin _ _ hu hx hk ?_ ?_ ?_ ?_ <;> (cases hx.1; simp)
  · refine fin _ _ hu hx hk ?_ ?_ ?_ ?_ <;> (cases hx.1; simp)
  · refine fin _ _ hu hx hk ?_ ?_ ?_ ?_ <;> (cases hx.1; simp)
  · refine fin _ _ hu hx hk ?_ ?_ ?_ ?_ <;> (cases hx.1; simp)
  · exact hk.elim

theorem op_pick {o : Oper} {σ : St} {a : Act} {w : World} {e : Env} {k : V → St → Prop} (h : RSt G σ a w e) (c x y : Operand) (ho : o.op = .pick c x y) (hk : evOp P G o σ k) :
    OpDone P G o σ a w e k := by
  simp only [evOp, ho] at hk
  have hc := h.ev c
  generalize σ.ev c = vc at hk hc
  split at hk
  · rename_i t
    have ec := rep_im hc
    cases t with
    | true => exact opDone_pure h (u := a.eval x) (by simp only [execOp, ho, ec]; rfl) (hk.1 rfl) (h.ev x)
    | false => exact opDone_pure h (u := a.eval y) (by simp only [execOp, ho, ec]; rfl) (hk.2 rfl) (h.ev y)
  · exact hk.elim

theorem op_extract {o : Oper} {σ : St} {a : Act} {w : World} {e : Env} {k : V → St → Prop} (h : RSt G σ a w e) (x : Operand) (i : Nat) (ho : o.op = .extract x i) (hk : evOp P G o σ k) :
    OpDone P G o σ a w e k := by
  simp only [evOp, ho] at hk
  have hx := h.ev x
  generalize σ.ev x = vx at hk hx
  split at hk
  · rename_i vs
    split at hk
    · rename_i v hv
      obtain ⟨hx1, _⟩ := hx
      generalize hu : a.eval x = u at hx1
      cases hx1 with
      | tup vs us hl hh =>
        have hi : i < us.size := by rw [← hl]; exact (List.getElem?_eq_some_iff.1 hv).1
        refine opDone_pure h (u := us[i]) ?_ hk (hh i v us[i] hv (Array.getElem?_eq_getElem hi)).strip
        simp only [execOp, ho, hu]
        refine run_value ?_
        simp only [Instr.extract, Array.getElem?_eq_getElem hi]
        rfl
    · exact hk.elim
  · exact hk.elim

theorem fieldOf_some {t ft : TypeId} {f off : Nat} (h : fieldOf P t f = some (off, ft)) : ∃ fs fd, P.underlying t = some (.struct fs) ∧ fs[f]? = some fd ∧ fd.offset = off ∧ fd.type = ft := by
  unfold fieldOf at h
  split at h
  · rename_i fs hu
    obtain ⟨fd, hfd, he⟩ := Option.map_eq_some_iff.1 h
    simp only [Prod.mk.injEq] at he
    exact ⟨fs, fd, hu, hfd, he.1, he.2⟩
  · cases h

/-- A part of a struct or an array. -/
theorem part_cells {w : World} {e : Env} {cs : List V} {us : Array Value} (t : TypeId) (off : Nat) {K : V → Prop} (hl : cs.length = us.size) (h : ∀ (i : Nat) (v : V) (u : Value), cs[i]? = some v → us[i]? = some u → Rep w e v u)
    (hk : evLoadCells P t (cs.drop off) (fun v => K v.strip)) : ∃ u v, (part t us off).run P w = .ok u w ∧ K v ∧ RepF w e v u := by
  unfold evLoadCells at hk
  cases htk : tk P t with
  | none => rw [htk] at hk; exact hk.elim
  | some bn =>
    obtain ⟨bb, n⟩ := bn
    obtain ⟨r1, r2⟩ := tk_some htk w
    rw [htk] at hk
    cases bb with
    | true =>
      obtain ⟨hle, hk⟩ := hk
      simp only [List.length_drop] at hle
      refine ⟨.agg (us.extract off (off + n)), _, ?_, hk, ?_⟩
      · unfold part
        rw [Sem.run_bind, r1]
        simp only [Result.andThen, if_true]
        rw [Sem.run_bind, r2]
        rfl
      · refine ⟨.agg _ _ (by simp; omega) (fun i v u hv hu => ?_), trivial⟩
        rw [List.getElem?_take] at hv
        split at hv
        · rename_i hi
          rw [List.getElem?_drop] at hv
          rw [Array.getElem?_extract] at hu
          split at hu
          · exact h _ v u hv hu
          · cases hu
        · cases hv
    | false =>
      cases hd : cs.drop off with
      | nil => rw [hd] at hk; exact hk.elim
      | cons v rest =>
        rw [hd] at hk
        have hv : cs[off]? = some v := by
          have : (cs.drop off)[0]? = some v := by rw [hd]; rfl
          rwa [List.getElem?_drop] at this
        have hi : off < us.size := by rw [← hl]; exact (List.getElem?_eq_some_iff.1 hv).1
        refine ⟨us[off], _, ?_, hk, (h off v us[off] hv (Array.getElem?_eq_getElem hi)).strip⟩
        unfold part
        rw [Sem.run_bind, r1]
        simp only [Result.andThen, Bool.false_eq_true, if_false, Array.getElem?_eq_getElem hi]
        rfl

theorem op_field {o : Oper} {σ : St} {a : Act} {w : World} {e : Env} {k : V → St → Prop} (h : RSt G σ a w e) (t : TypeId) (x : Operand) (f : Nat) (ho : o.op = .field t x f) (hk : evOp P G o σ k) :
    OpDone P G o σ a w e k := by
  simp only [evOp, ho] at hk
  have hx := h.ev x
  generalize σ.ev x = vx at hk hx
  unfold evField at hk
  split at hk
  · rename_i cs
    split at hk
    · rename_i off ft hf
      obtain ⟨fs, fd, hu, hfd, rfl, rfl⟩ := fieldOf_some hf
      obtain ⟨us, ex, hl, hh⟩ := agg_inv hx
      obtain ⟨u, v, hr, hk, hv⟩ := part_cells fd.type fd.offset (K := fun v => k v σ) hl hh hk
      refine opDone_pure h (u := u) ?_ hk hv
      simp only [execOp, ho, ex]
      refine run_value ?_
      unfold Instr.field
      rw [Sem.run_bind, run_underlying' hu]
      simp only [Result.andThen, hfd]
      exact hr
    · exact hk.elim
  · exact hk.elim


theorem rep_rp_drop {w : World} {e : Env} {cs : List V} {b o n : Nat} (h : Rep w e (.rp cs) (.pointer (some ⟨b, o, none⟩))) : Rep w e (.rp (cs.drop n)) (.pointer (some ⟨b, o + n, none⟩)) := by
  cases h with
  | rp cs b o u h1 h2 =>
    refine .rp _ _ _ (fun j => u (n + j)) (fun j v hv => ?_) (fun j v hv => ?_)
    · rw [List.getElem?_drop] at hv
      have := h1 _ v hv
      rw [← Nat.add_assoc] at this
      exact this
    · rw [List.getElem?_drop] at hv
      exact h2 _ v hv

theorem rp_inv {w : World} {e : Env} {cs : List V} {u : Value} (h : Rep w e (.rp cs) u) : ∃ b o, u = .pointer (some ⟨b, o, none⟩) := by
  cases h with
  | rp cs b o u h1 h2 => exact ⟨b, o, rfl⟩
theorem ptr_inv {w : World} {e : Env} {id off : Nat} {u : Value} (h : Rep w e (.ptr id off) u) : u = .pointer (some ⟨e.ρ id, off, none⟩) ∧ id < e.N := by
  cases h with
  | ptr id off hid => exact ⟨rfl, hid⟩

theorem op_fieldAddr {o : Oper} {σ : St} {a : Act} {w : World} {e : Env} {k : V → St → Prop} (h : RSt G σ a w e) (t : TypeId) (x : Operand) (f : Nat) (ho : o.op = .fieldAddr t x f) (hk : evOp P G o σ k) :
    OpDone P G o σ a w e k := by
  simp only [evOp, ho, evFieldAddr] at hk
  have hx := asRp_repF h.heap (h.ev x)
  generalize hu : a.eval x = u at hx
  generalize asRp G (σ.ev x) = vx at hk hx
  split at hk
  · rename_i fo ft hf
    split at hk
    · rename_i bb n htk
      obtain ⟨hn, hk⟩ := hk
      obtain ⟨fs, fd, hun, hfd, rfl, rfl⟩ := fieldOf_some hf
      have main : ∀ b off v, u = .pointer (some ⟨b, off, none⟩) → k v σ → RepF w e v (.pointer (some ⟨b, off + fd.offset, none⟩)) → OpDone P G o σ a w e k := by
        intro b off v hp hk hv
        refine opDone_pure h (u := .pointer (some ⟨b, off + fd.offset, none⟩)) ?_ hk hv
        simp only [execOp, ho, hu, hp]
        refine run_value ?_
        unfold Instr.fieldAt
        rw [Sem.run_bind, run_underlying' hun]
        simp only [Result.andThen, hfd, Instr.sureAddr]
        unfold fieldPlace
        simp only [Sem.run_bind, Sem.run_pure, Result.andThen, (tk_some htk w).2]
        rw [if_neg (by omega), addr_add]
        rfl
      split at hk
      · obtain ⟨hp, hid⟩ := ptr_inv hx.1
        exact main _ _ _ hp hk ⟨.ptr _ _ hid, trivial⟩
      · obtain ⟨b, off, rfl⟩ := rp_inv hx.1
        exact main _ _ _ rfl hk ⟨rep_rp_drop hx.1, trivial⟩
      · exact hk.elim
    · exact hk.elim
  · exact hk.elim

theorem arrOf_some {t el : TypeId} {n s : Nat} (h : arrOf P t = some (n, el, s)) : ∃ i, P.underlying t = some (.array n el) ∧ P.info? el = some i ∧ i.size = s := by
  unfold arrOf at h
  split at h
  · rename_i n' e' hu
    obtain ⟨i, hi, he⟩ := Option.map_eq_some_iff.1 h
    simp only [Prod.mk.injEq] at he
    obtain ⟨rfl, rfl, rfl⟩ := he
    exact ⟨i, hu, hi, rfl⟩
  · cases h

theorem slOf_some {t el : TypeId} {s b : Nat} (h : slOf P t = some (el, s, b)) : ∃ i, P.underlying t = some (.slice el) ∧ P.info? el = some i ∧ i.size = s ∧ i.bytes = b := by
  unfold slOf at h
  split at h
  · rename_i e' hu
    obtain ⟨i, hi, he⟩ := Option.map_eq_some_iff.1 h
    simp only [Prod.mk.injEq] at he
    obtain ⟨rfl, rfl, rfl⟩ := he
    exact ⟨i, hu, hi, rfl, rfl⟩
  · cases h

theorem op_index {o : Oper} {σ : St} {a : Act} {w : World} {e : Env} {k : V → St → Prop} (h : RSt G σ a w e) (t : TypeId) (x y : Operand) (ho : o.op = .index t x y) (hk : evOp P G o σ k) :
    OpDone P G o σ a w e k := by
  simp only [evOp, ho] at hk
  have hx := h.ev x
  have hy := h.ev y
  generalize σ.ev x = vx at hk hx
  generalize σ.ev y = vy at hk hy
  unfold evIndex at hk
  split at hk
  · rename_i cs kd n
    have ey := rep_int hy
    split at hk
    · rename_i len el s harr
      obtain ⟨h0, hlt, hk⟩ := hk
      obtain ⟨i, hu, hi, hs⟩ := arrOf_some harr
      obtain ⟨us, ex, hl, hh⟩ := agg_inv hx
      obtain ⟨u, v, hr, hk, hv⟩ := part_cells el (n.toNat * s) (K := fun v => k v σ) hl hh hk
      refine opDone_pure h (u := u) ?_ hk hv
      simp only [execOp, ho, ex, ey]
      refine run_value ?_
      unfold Instr.index
      simp only [asIntOf, Sem.run_bind, Sem.run_pure, Result.andThen, run_underlying' hu]
      rw [if_pos ⟨h0, hlt⟩, Sem.run_bind, run_sizeOf' hi, hs]
      exact hr
    · exact hk.elim
  · rename_i l kd n
    obtain ⟨hu, h0, b, hb, hk⟩ := hk
    have ey := rep_int hy
    have ex := rep_str hx
    refine opDone_pure h (u := .int .u8 b.toNat) ?_ hk (repF_im w e _)
    simp only [execOp, ho, ex, ey]
    refine run_value ?_
    unfold Instr.index
    simp only [asIntOf, Sem.run_bind, Sem.run_pure, Result.andThen, run_underlying' hu]
    rw [if_pos h0]
    have : (⟨⟨l⟩⟩ : ByteArray)[n.toNat]? = some b := by
      have hlt := (List.getElem?_eq_some_iff.1 hb).1
      have hlt' : n.toNat < (⟨⟨l⟩⟩ : ByteArray).size := hlt
      rw [getElem?_pos (⟨⟨l⟩⟩ : ByteArray) n.toNat hlt']
      have := (List.getElem?_eq_some_iff.1 hb).2
      exact congrArg some this
    rw [this]
    rfl
  · exact hk.elim

theorem op_indexAddr {o : Oper} {σ : St} {a : Act} {w : World} {e : Env} {k : V → St → Prop} (h : RSt G σ a w e) (t : TypeId) (x y : Operand) (ho : o.op = .indexAddr t x y) (hk : evOp P G o σ k) :
    OpDone P G o σ a w e k := by
  simp only [evOp, ho] at hk
  have hx := asRp_repF h.heap (h.ev x)
  have hy := h.ev y
  generalize hux : a.eval x = ux at hx
  generalize asRp G (σ.ev x) = vx at hk hx
  generalize σ.ev y = vy at hk hy
  unfold evIndexAddr at hk
  split at hk
  · rename_i kd n
    have ey := rep_int hy
    split at hk
    · -- a slice
      rename_i el s by_ hsl
      obtain ⟨i, hu, hi, hs, _⟩ := slOf_some hsl
      have main : ∀ b off len cap v, ux = .slice (some ⟨b, off, none⟩) len cap → 0 ≤ n → n < len → k v σ → RepF w e v (.pointer (some ⟨b, off + n.toNat * s, none⟩)) → OpDone P G o σ a w e k := by
        intro b off len cap v hp h0 hlt hk hv
        refine opDone_pure h (u := .pointer (some ⟨b, off + n.toNat * s, none⟩)) ?_ hk hv
        simp only [execOp, ho, hux, hp, ey]
        refine run_value ?_
        unfold Instr.indexAt
        simp only [asIntOf, Sem.run_bind, Sem.run_pure, Result.andThen, run_underlying' hu]
        rw [if_pos ⟨h0, hlt⟩, Sem.run_bind, run_sizeOf' hi, hs]
        simp only [Result.andThen]
        rw [addr_add]
        rfl
      split at hk
      · obtain ⟨rfl, hs1, h0, r, hr, hk⟩ := hk
        obtain ⟨hx1, _⟩ := hx
        have hlt := (List.getElem?_eq_some_iff.1 hr).1
        cases hx1 with
        | nil => simp at hlt
        | dat _ _ _ b off cap us hes hcap ht h1 h2 =>
          have hrl := hes r (List.mem_of_getElem? hr)
          refine main b off _ _ _ rfl h0 (by omega) hk ⟨.rp r b _ (fun j => us n.toNat j) (fun j v hj => ?_) (fun j v hj => ?_), trivial⟩
          · have := h1 n.toNat j v (by simp [at2, hr, hj])
            rw [Nat.add_assoc]
            exact this
          · exact h2 n.toNat j v (by simp [at2, hr, hj])
      · obtain ⟨rfl, h0, hlt, hk⟩ := hk
        obtain ⟨hx1, _⟩ := hx
        cases hx1 with
        | arr _ _ _ cap hid hc =>
          refine main (e.ρ _) 0 _ _ _ rfl h0 hlt hk ⟨?_, trivial⟩
          rw [Nat.zero_add]
          exact .ptr _ _ hid
      · exact hk.elim
    · -- an array
      rename_i len el s _ harr
      obtain ⟨i, hu, hi, hs⟩ := arrOf_some harr
      have main : ∀ b off v, ux = .pointer (some ⟨b, off, none⟩) → 0 ≤ n → n < len → k v σ → RepF w e v (.pointer (some ⟨b, off + n.toNat * s, none⟩)) → OpDone P G o σ a w e k := by
        intro b off v hp h0 hlt hk hv
        refine opDone_pure h (u := .pointer (some ⟨b, off + n.toNat * s, none⟩)) ?_ hk hv
        simp only [execOp, ho, hux, hp, ey]
        refine run_value ?_
        unfold Instr.indexAt
        simp only [asIntOf, Sem.run_bind, Sem.run_pure, Result.andThen, run_underlying' hu, Instr.sureAddr]
        rw [if_pos ⟨h0, hlt⟩, Sem.run_bind, run_sizeOf' hi, hs]
        simp only [Result.andThen]
        rw [addr_add]
        rfl
      split at hk
      · obtain ⟨h0, hlt, hk⟩ := hk
        obtain ⟨hp, hid⟩ := ptr_inv hx.1
        exact main _ _ _ hp h0 hlt hk ⟨.ptr _ _ hid, trivial⟩
      · obtain ⟨h0, hlt, hk⟩ := hk
        obtain ⟨b, off, rfl⟩ := rp_inv hx.1
        exact main _ _ _ rfl h0 hlt hk ⟨rep_rp_drop hx.1, trivial⟩
      · exact hk.elim
    · exact hk.elim
  · exact hk.elim

/-! ### conversions -/
theorem op_convert {o : Oper} {σ : St} {a : Act} {w : World} {e : Env} {k : V → St → Prop} (h : RSt G σ a w e) (src dst : TypeId) (x : Operand) (ho : o.op = .convert src dst x) (hk : evOp P G o σ k) :
    OpDone P G o σ a w e k := by
  simp only [evOp, ho] at hk
  have hx := h.ev x
  generalize hu : a.eval x = u at hx
  generalize σ.ev x = v at hk hx
  unfold evConvert at hk
  split at hk
  · rename_i d kk _ n hs hd
    have := rep_int hx
    subst this
    refine opDone_pure h (u := .int kk (kk.wrap n)) ?_ hk (repF_im _ _ _)
    simp only [execOp, ho, hu]
    refine run_value ?_
    simp [convert, run_underlying hs, run_underlying hd, Conv.intToInt]
  · rename_i l hs hd
    have := rep_str hx
    subst this
    refine opDone_pure h (u := .string ⟨⟨l⟩⟩) ?_ hk (repF_str _ _ _)
    simp only [execOp, ho, hu]
    refine run_value ?_
    simp [convert, run_underlying hs, run_underlying hd]
  · rename_i el es rows fl hs hd
    obtain ⟨he, hes, l, rfl, hk⟩ := hk
    refine opDone_pure h (u := .string ⟨⟨l⟩⟩) ?_ hk (repF_str _ _ _)
    simp only [execOp, ho, hu]
    refine run_value ?_
    obtain ⟨hx1, _⟩ := hx
    generalize hrw : byteRows l = rows at hx1 hes
    cases hx1 with
    | nil =>
      have hl : l = [] := by
        cases l with
        | nil => rfl
        | cons b l => cases hrw
      subst hl
      rw [run_convert_bytes_string w src dst el none 0 0 hs he hd]
      rfl
    | dat _ _ _ b off cap uu hes' hcap ht h1 h2 =>
      have hlen : rows.length = l.length := by rw [← hrw]; simp [byteRows]
      have := run_convert_bytes_back (P := P) w src dst el ⟨b, off, none⟩ cap l hs he hd (fun j hj => by
        have hat : at2 rows j 0 = some (V.int .u8 (l[j].toNat : Int)) := by
          rw [← hrw]
          simp [at2, byteRows, hj]
        have hne : rows ≠ [] := by
          intro h0
          rw [h0] at hlen
          simp at hlen
          omega
        have hes1 : es = 1 := hes.resolve_left hne
        have h3 := (h1 j 0 _ hat).1
        have h4 := h2 j 0 _ hat
        have h5 : uu j 0 = .int .u8 (l[j].toNat : Int) := by
          generalize uu j 0 = u0 at h4
          cases h4
          rfl
        rw [h5, hes1] at h3
        simp only [Nat.mul_one, Nat.add_zero] at h3
        rw [addr_add]
        exact h3)
      rw [hlen]
      exact this
  · exact hk.elim

end Go.Abs
