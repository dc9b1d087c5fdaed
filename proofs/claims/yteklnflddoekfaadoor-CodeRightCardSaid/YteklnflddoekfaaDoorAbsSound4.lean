/- Structs, arrays and slices that are built; arithmetic; parts. -/
import Derived.Test.YteklnflddoekfaaDoorAbsSound3
import Derived.Laws.Sem
namespace Go.Abs
open Go.RowKit

variable {P : Program} {G : Nat → Option (List V)}

theorem foldl_set_get (l : List Value) : ∀ (cells : Array Value) (off s : Nat) (k : Nat),
    ((l.zipIdx s).foldl (fun cs (c, j) => cs.setIfInBounds (off + j) c) cells).size = cells.size ∧
    (off + s + l.length ≤ cells.size → ((l.zipIdx s).foldl (fun cs (c, j) => cs.setIfInBounds (off + j) c) cells)[k]? =
      if off + s ≤ k ∧ k < off + s + l.length then l[k - (off + s)]? else cells[k]?) := by
  induction l with
  | nil => intro cells off s k; exact ⟨rfl, fun _ => by rw [if_neg (by simp)]; rfl⟩
  | cons x l ih =>
    intro cells off s k
    simp only [List.zipIdx_cons, List.foldl_cons]
    obtain ⟨h1, h2⟩ := ih (cells.setIfInBounds (off + s) x) off (s + 1) k
    refine ⟨by rw [h1]; simp, fun hle => ?_⟩
    rw [h2 (by simp at hle ⊢; omega)]
    rw [Array.getElem?_setIfInBounds]
    simp only [List.length_cons] at hle ⊢
    by_cases hk : off + s = k
    · subst hk
      rw [if_neg (by omega), if_pos rfl, if_pos (by omega), if_pos (by omega)]
      simp
    · by_cases h5 : off + (s + 1) ≤ k ∧ k < off + (s + 1) + l.length
      · rw [if_pos h5, if_pos (by omega)]
        obtain ⟨j, hj⟩ : ∃ j, k - (off + s) = j + 1 := ⟨k - (off + s) - 1, by omega⟩
        rw [hj, show k - (off + (s + 1)) = j by omega]
        simp
      · rw [if_neg h5, if_neg hk]
        by_cases h6 : off + s ≤ k ∧ k < off + s + (l.length + 1)
        · omega
        · rw [if_neg h6]

theorem fill_of_fillV {w : World} {e : Env} {place : Nat → Option (Nat × Nat)} (parts : List (Nat × V)) : ∀ (parts' : List (Nat × Value)) (vs : List V) (us : Array Value) (cs : List V),
    parts.length = parts'.length → (∀ (i : Nat) (x : Nat × V) (y : Nat × Value), parts[i]? = some x → parts'[i]? = some y → x.1 = y.1 ∧ RepF w e x.2 y.2) →
    Reps w e vs us.toList → fillV place vs parts = some cs → ∃ us', Instr.fill place us parts' = some us' ∧ Reps w e cs us'.toList := by
  induction parts with
  | nil =>
    intro parts' vs us cs hl _ hr hf
    cases parts' with
    | nil => simp only [fillV, Option.some.injEq] at hf; subst hf; exact ⟨us, rfl, hr⟩
    | cons => simp at hl
  | cons x rest ih =>
    intro parts' vs us cs hl hp hr hf
    cases parts' with
    | nil => simp at hl
    | cons y rest' =>
      obtain ⟨i, v⟩ := x
      obtain ⟨i', u⟩ := y
      obtain ⟨he, hv⟩ := hp 0 (i, v) (i', u) rfl rfl
      dsimp only at he
      subst he
      simp only [fillV] at hf
      split at hf
      · rename_i off size cs0 hpl hcs
        split at hf
        · rename_i hsz
          have hrep := reps_cells hv hcs
          have hvl := hr.1
          have hlen : u.cells.size = size := by have := hrep.1; simp at this; omega
          have hus : off + u.cells.size ≤ us.size := by simp at hvl; omega
          simp only [Instr.fill, hpl]
          rw [if_neg (by simp; omega)]
          have hfold : ∀ k, (u.cells.zipIdx.foldl (fun cs (x : Value × Nat) => cs.setIfInBounds (off + x.2) x.1) us).size = us.size ∧
              (u.cells.zipIdx.foldl (fun cs (x : Value × Nat) => cs.setIfInBounds (off + x.2) x.1) us)[k]? = if off ≤ k ∧ k < off + u.cells.size then u.cells.toList[k - off]? else us[k]? := by
            intro k
            have h0 := foldl_set_get u.cells.toList us off 0 k
            rw [← Array.foldl_toList, Array.toList_zipIdx]
            refine ⟨h0.1, ?_⟩
            have := h0.2 (by simpa using hus)
            simpa using this
          refine ih rest' _ _ cs (by simpa using hl) (fun j x y hx hy => hp (j + 1) x y (by simpa using hx) (by simpa using hy)) ⟨?_, fun j v' u' hv' hu' => ?_⟩ hf
          · rw [setRange_length (by omega)]
            simp only [Array.length_toList]
            exact hvl.trans (by simpa using ((hfold 0).1).symm)
          · rw [setRange_get (by omega)] at hv'
            rw [Array.getElem?_toList] at hu'
            have hu'' := hu'
            rw [show (Array.foldl (fun cs (x : Value × Nat) => match x with | (c, j) => cs.setIfInBounds (off + j) c) us u.cells.zipIdx) = (u.cells.zipIdx.foldl (fun cs (x : Value × Nat) => cs.setIfInBounds (off + x.2) x.1) us) from rfl, (hfold j).2] at hu''
            by_cases hj : off ≤ j ∧ j < off + cs0.length
            · rw [if_pos hj] at hv'
              rw [if_pos (by omega)] at hu''
              exact hrep.2 _ _ _ hv' hu''
            · rw [if_neg hj] at hv'
              rw [if_neg (by omega)] at hu''
              exact hr.2 j v' u' hv' (by rw [Array.getElem?_toList]; exact hu'')
        · cases hf
      · cases hf

theorem parts_rep {σ : St} {a : Act} {w : World} {e : Env} (h : RSt G σ a w e) (parts : Array (Nat × Operand)) :
    (parts.toList.map fun (i, x) => (i, σ.ev x)).length = (parts.map fun (i, x) => (i, a.eval x)).toList.length ∧
    ∀ (i : Nat) (x : Nat × V) (y : Nat × Value), (parts.toList.map fun (i, x) => (i, σ.ev x))[i]? = some x → (parts.map fun (i, x) => (i, a.eval x)).toList[i]? = some y → x.1 = y.1 ∧ RepF w e x.2 y.2 := by
  refine ⟨by simp, fun i x y hx hy => ?_⟩
  rw [List.getElem?_map] at hx
  rw [Array.toList_map, List.getElem?_map] at hy
  obtain ⟨p, hp, rfl⟩ := Option.map_eq_some_iff.1 hx
  rw [hp] at hy
  simp only [Option.map_some, Option.some.injEq] at hy
  subst hy
  exact ⟨rfl, h.ev _⟩

theorem run_zeroValue {t : TypeId} {i : TypeInfo} {v : Value} (hi : P.info? t = some i) (hz : i.zero = some v) (w : World) : (zeroValue t).run P w = .ok v w := by
  unfold zeroValue
  rw [Sem.run_bind, run_typeInfo' hi]
  simp only [Result.andThen, hz]
  rfl

theorem run_sizeOf' {t : TypeId} {i : TypeInfo} (hi : P.info? t = some i) (w : World) : (sizeOf t).run P w = .ok i.size w := by
  unfold sizeOf
  rw [Sem.run_bind, run_typeInfo' hi]
  rfl

theorem run_places (w : World) (fs : List Field) : ∀ (l : List (Nat × Nat)), (fs.mapM fun f => (P.info? f.type).map fun j => (f.offset, j.size)) = some l →
    (fs.mapM fun f => do pure (f.offset, ← sizeOf f.type) : Sem (List (Nat × Nat))).run P w = .ok l w := by
  induction fs with
  | nil => intro l h; simp at h; subst h; rfl
  | cons f fs ih =>
    intro l h
    simp only [List.mapM_cons, Option.bind_eq_bind, Option.bind_eq_some_iff, Option.pure_def, Option.some.injEq, Option.map_eq_some_iff] at h
    obtain ⟨x, ⟨i, hi, rfl⟩, l', hl', rfl⟩ := h
    simp only [List.mapM_cons]
    rw [Sem.run_bind, Sem.run_bind, run_sizeOf' hi]
    simp only [Result.andThen]
    rw [Sem.run_pure]
    simp only [Sem.run_bind]
    rw [ih l' hl']
    rfl

theorem op_build {o : Oper} {σ : St} {a : Act} {w : World} {e : Env} {k : V → St → Prop} (h : RSt G σ a w e) (t : TypeId) (parts : Array (Nat × Operand)) (ho : o.op = .build t parts) (hk : evOp P G o σ k) :
    OpDone P G o σ a w e k := by
  simp only [evOp, ho, evBuild] at hk
  obtain ⟨p1, p2⟩ := parts_rep h parts
  split at hk
  · rename_i pl z hpl hz
    split at hk
    · rename_i cs hf
      obtain ⟨i, v, hi, hzv, hr⟩ := zeroOf_some hz
      obtain ⟨us', hfill, hreps⟩ := fill_of_fillV _ _ z v.cells cs p1 p2 (hr w e) hf
      refine opDone_pure h (u := .agg us') ?_ hk ⟨.agg _ _ (by simpa using hreps.1) (fun i v u hv hu => (hreps.2 i v u hv (by rw [Array.getElem?_toList]; exact hu)).1), trivial⟩
      simp only [execOp, ho]
      refine run_value ?_
      unfold Instr.build
      rw [Sem.run_bind, run_zeroValue hi hzv]
      simp only [Result.andThen]
      unfold placesOf at hpl
      split at hpl
      · rename_i fs hu
        rw [Sem.run_bind, run_underlying' hu]
        simp only [Result.andThen]
        obtain ⟨l, hl, rfl⟩ := Option.map_eq_some_iff.1 hpl
        have hp := run_places (P := P) w fs.toList l hl
        rw [Sem.run_bind]
        have e1 : (fs.mapM (fun f => do pure (f.offset, ← sizeOf f.type)) : Sem (Array (Nat × Nat))).run P w = .ok l.toArray w := by
          rw [Array.mapM_eq_mapM_toList, map_eq_pure_bind, Sem.run_bind, hp]
          rfl
        rw [e1]
        simp only [Result.andThen, List.getElem?_toArray, hfill]
        rfl
      · rename_i n el hu
        rw [Sem.run_bind, run_underlying' hu]
        simp only [Result.andThen]
        obtain ⟨j, hj, rfl⟩ := Option.map_eq_some_iff.1 hpl
        rw [Sem.run_bind, run_sizeOf' hj]
        simp only [Result.andThen, hfill]
        rfl
      · cases hpl
    · exact hk.elim
  · exact hk.elim

/-! ### a new block that is no one's to write -/

/-- A block of cells is laid whose first m cells are read-only from now on, the others spare places of class c. -/
def Env.lay (e : Env) (r m n c : Nat) : Env :=
  { e with RO := fun b o => e.RO b o ∨ (b = r ∧ o < m), Sp := fun c' b o => e.Sp c' b o ∨ (c' = c ∧ b = r ∧ m ≤ o ∧ o < n) }

theorem RHeap.lay {H : Heap} {w : World} {e : Env} (hR : RHeap G H w e) (t : TypeId) (cs : Array Value) (m c : Nat) (hm : m ≤ cs.size) :
    Mono w e (w.alloc (.cells cs t)) (e.lay w.heap.size m cs.size c) ∧ RHeap G H (w.alloc (.cells cs t)) (e.lay w.heap.size m cs.size c) ∧
    Ext H w e H (w.alloc (.cells cs t)) (e.lay w.heap.size m cs.size c) := by
  have hnew : ∀ j, j < cs.size → (cel (w.alloc (.cells cs t)) w.heap.size j).isSome ∧ fro (w.alloc (.cells cs t)) w.heap.size j = false := by
    intro j hj
    unfold cel fro World.cell? World.frozen?
    rw [World.alloc_heap_new]
    simp [hj]
  have mo : Mono w e (w.alloc (.cells cs t)) (e.lay w.heap.size m cs.size c) :=
    ⟨Nat.le_refl _, fun _ _ => rfl, fun b i h => ⟨.inl h, cel_alloc w _ (lt_of_cel (hR.ro b i h)) i⟩, fun _ _ _ h => .inl h⟩
  refine ⟨mo, ⟨hR.len, fun id b hb => (hR.blk id b hb).mono mo (Below.heap_alloc _ _ _ (hR.blk id b hb).lt), hR.inj, ?_, ?_, ?_, ?_, fun g cs h => (hR.glob g cs h).mono mo⟩,
    ⟨rfl, rfl, rfl, by simp, Nat.le_refl _, fun _ _ => rfl, ?_, fun _ _ h => h, fun _ _ h => .inl h, ?_, ?_, fun b i hb _ _ => ⟨cel_alloc w _ hb i, fro_alloc w _ hb i⟩, fun b hb _ _ => Below.heap_alloc _ _ _ hb⟩⟩
  · rintro b i (h | ⟨rfl, h⟩)
    · have h1 := hR.ro b i h
      rw [cel_alloc w _ (lt_of_cel h1)]
      exact h1
    · exact (hnew i (by omega)).1
  · rintro id i hl (h | ⟨h, _⟩)
    · exact hR.roOwn id i hl h
    · have := hR.liveLt hl
      change e.ρ id = w.heap.size at h
      omega
  · rintro c' b i (h | ⟨rfl, rfl, h1, h2⟩)
    · obtain ⟨h1, h2, h3, h4⟩ := hR.sp c' b i h
      have hlt := lt_of_cel h1
      refine ⟨by rw [cel_alloc w _ hlt]; exact h1, by rw [fro_alloc w _ hlt]; exact h2, ?_, h4⟩
      rintro (h5 | ⟨h5, _⟩)
      · exact h3 h5
      · omega
    · refine ⟨(hnew i h2).1, (hnew i h2).2, ?_, fun id hl he => ?_⟩
      · rintro (h5 | ⟨_, h5⟩)
        · have := lt_of_cel (hR.ro _ _ h5); omega
        · omega
      · have := hR.liveLt hl
        change e.ρ id = w.heap.size at he
        omega
  · rintro c1 c2 b i (h1 | ⟨rfl, rfl, _, _⟩) (h2 | ⟨rfl, hb, _, _⟩)
    · exact hR.spd c1 c2 b i h1 h2
    · have := lt_of_cel (hR.sp _ _ _ h1).1; omega
    · have := lt_of_cel (hR.sp _ _ _ h2).1; omega
    · rfl
  · intro id hid hl
    have := live_lt hl
    omega
  · rintro b i (h | ⟨rfl, _⟩)
    · exact .inl h
    · exact .inr (.inl (Nat.le_refl _))
  · rintro c' b i (h | ⟨_, rfl, _, _⟩)
    · exact .inr ⟨c', h⟩
    · exact .inl (Nat.le_refl _)

theorem RSt.lay {σ : St} {a : Act} {w : World} {e : Env} (h : RSt G σ a w e) (t : TypeId) (cs : Array Value) (m c : Nat) (hm : m ≤ cs.size) :
    RSt G σ a (w.alloc (.cells cs t)) (e.lay w.heap.size m cs.size c) :=
  ⟨(h.heap.lay t cs m c hm).2.1, h.tmps.mono (h.heap.lay t cs m c hm).1, h.defs, h.defsN, h.cur⟩

theorem chunks_length (n : Nat) : ∀ (m : Nat) (cs : List V), (chunks n m cs).length = m := by
  intro m
  induction m with
  | zero => intro cs; rfl
  | succ m ih => intro cs; simp [chunks, ih]

theorem chunks_get (n : Nat) : ∀ (m : Nat) (cs : List V) (i : Nat), i < m → (chunks n m cs)[i]? = some ((cs.drop (i * n)).take n) := by
  intro m
  induction m with
  | zero => intro cs i h; omega
  | succ m ih =>
    intro cs i h
    cases i with
    | zero => simp [chunks]
    | succ i =>
      simp only [chunks, List.getElem?_cons_succ]
      rw [ih _ i (by omega), List.drop_drop]
      congr 3
      rw [Nat.succ_mul, Nat.add_comm]

theorem chunks_es (n : Nat) (m : Nat) (cs : List V) (h : m * n ≤ cs.length) : ∀ r ∈ chunks n m cs, r.length = n := by
  intro r hr
  obtain ⟨i, hi, rfl⟩ := List.getElem_of_mem hr
  rw [chunks_length] at hi
  have := chunks_get n m cs i hi
  rw [List.getElem?_eq_getElem (by rw [chunks_length]; exact hi), Option.some.injEq] at this
  rw [this, List.length_take, List.length_drop, Nat.min_eq_left]
  have : (i + 1) * n ≤ m * n := Nat.mul_le_mul_right n hi
  rw [Nat.succ_mul] at this
  omega

theorem at2_chunks {n m : Nat} {cs : List V} {i j : Nat} {v : V} (h : at2 (chunks n m cs) i j = some v) : i < m ∧ j < n ∧ cs[i * n + j]? = some v := by
  unfold at2 at h
  obtain ⟨r, hr, hj⟩ := Option.bind_eq_some_iff.1 h
  have hi : i < m := by
    have := (List.getElem?_eq_some_iff.1 hr).1
    rwa [chunks_length] at this
  rw [chunks_get n m cs i hi, Option.some.injEq] at hr
  subst hr
  rw [List.getElem?_take] at hj
  split at hj
  · rename_i hjn
    rw [List.getElem?_drop] at hj
    exact ⟨hi, hjn, hj⟩
  · cases hj

theorem replicate_get (z : List V) (len : Nat) : ∀ k, k < len * z.length → (List.replicate len z).flatten[k]? = z[k % z.length]? := by
  induction len with
  | zero => intro k h; simp at h
  | succ len ih =>
    intro k h
    rw [List.replicate_succ, List.flatten_cons]
    by_cases hk : k < z.length
    · rw [List.getElem?_append_left hk, Nat.mod_eq_of_lt hk]
    · have hm : k % z.length = (k - z.length) % z.length := Nat.mod_eq_sub_mod (by omega)
      rw [List.getElem?_append_right (by omega), ih _ (by rw [Nat.succ_mul] at h; omega), hm]

theorem Rep.toPure {w : World} {e : Env} {v : V} {u : Value} (h : Rep w e v u) (hd : v.dataCell = true) : Rep w e.pure v u := by
  cases h with
  | im => exact .im _
  | str l => exact .str l
  | nil es fl => exact .nil es fl
  | dat es rows fl b o cap u hes hcap ht h1 h2 => exact .dat es rows fl b o cap u hes hcap ht h1 h2
  | _ => simp [V.dataCell] at hd

theorem op_buildSlice {o : Oper} {σ : St} {a : Act} {w : World} {e : Env} {k : V → St → Prop} (h : RSt G σ a w e) (t : TypeId) (len : Nat) (parts : Array (Nat × Operand)) (ho : o.op = .buildSlice t len parts)
    (hk : evOp P G o σ k) : OpDone P G o σ a w e k := by
  simp only [evOp, ho, evBuildSlice] at hk
  obtain ⟨p1, p2⟩ := parts_rep h parts
  split at hk
  · rename_i el n by_ hsl
    split at hk
    · rename_i z hz
      obtain ⟨hzn, hn1, hbig, hk⟩ := hk
      split at hk
      · rename_i cs hf
        obtain ⟨hdata, hk⟩ := hk
        obtain ⟨i, v, hi, hzv, hr⟩ := zeroOf_some hz
        have hul : P.underlying t = some (.slice el) ∧ i.size = n := by
          unfold slOf at hsl
          split at hsl
          · rename_i el' hu
            obtain ⟨j, hj, he⟩ := Option.map_eq_some_iff.1 hsl
            simp only [Prod.mk.injEq] at he
            obtain ⟨rfl, rfl, _⟩ := he
            rw [hi] at hj
            simp only [Option.some.injEq] at hj
            exact ⟨hu, by rw [hj]⟩
          · cases hsl
        obtain ⟨hu, hsize⟩ := hul
        -- the zero cells
        let zs : Array Value := if len * n = 0 then #[] else v.cells
        have hvc : v.cells.size = n := by have := (hr w e).1; simp at this; omega
        have hz0 : Reps w e (List.replicate len z).flatten ((Array.range (len * n)).map (fun i => zs[i % zs.size]!)).toList := by
          refine ⟨by simp [hzn], fun j x y hx hy => ?_⟩
          have hj : j < len * n := by
            have := (List.getElem?_eq_some_iff.1 hx).1
            simpa [hzn] using this
          rw [replicate_get z len j (by rw [hzn]; exact hj)] at hx
          have hpos : len * n ≠ 0 := by omega
          have hzs : zs = v.cells := by simp [zs, hpos]
          rw [Array.getElem?_toList] at hy
          simp only [Array.getElem?_map, Array.getElem?_range, hj, if_true, Option.map_some, Option.some.injEq] at hy
          rw [hzs, hvc] at hy
          have hjm : j % n < v.cells.size := by rw [hvc]; exact Nat.mod_lt _ (by omega)
          refine (hr w e).2 (j % n) x y (by rw [← hzn]; exact hx) ?_
          rw [Array.getElem?_toList, Array.getElem?_eq_getElem hjm, ← hy, getElem!_pos v.cells (j % n) hjm]
        obtain ⟨us', hfill, hreps⟩ := fill_of_fillV _ _ _ _ cs p1 p2 hz0 hf
        have hcl : cs.length = us'.size := by simpa using hreps.1
        have hus : us'.size = len * n := by
          have e1 : ∀ (parts : List (Nat × V)) (vs cs : List V), fillV (fun i => some (i * n, n)) vs parts = some cs → cs.length = vs.length := by
            intro parts
            induction parts with
            | nil => intro vs cs h; simp only [fillV, Option.some.injEq] at h; rw [h]
            | cons x rest ih =>
              intro vs cs h
              obtain ⟨i, v⟩ := x
              simp only [fillV] at h
              split at h
              · split at h
                · rename_i hpl hcs hsz
                  simp only [Option.some.injEq, Prod.mk.injEq] at hpl
                  obtain ⟨rfl, rfl⟩ := hpl
                  rw [ih _ _ h, setRange_length (by omega)]
                · cases h
              · cases h
          have := e1 _ _ _ hf
          simp [hzn] at this
          omega
        obtain ⟨mo, hH, hx⟩ := h.heap.lay el us' us'.size 0 (Nat.le_refl _)
        refine ⟨.slice (some ⟨w.heap.size, 0, none⟩) len len, _, _, σ, _, .inl ?_, hk, rfl, h.lay el us' us'.size 0 (Nat.le_refl _), ⟨?_, trivial⟩, hx⟩
        · simp only [execOp, ho]
          refine run_value ?_
          unfold Instr.buildSlice
          rw [Sem.run_bind, run_underlying' hu]
          simp only [Result.andThen]
          rw [Sem.run_bind, run_sizeOf' hi, hsize]
          simp only [Result.andThen]
          rw [if_neg (by omega)]
          by_cases h0 : len * n = 0
          · have hzs : zs = #[] := by simp [zs, h0]
            rw [hzs] at hfill
            rw [if_pos h0]
            simp only [Sem.run_bind, Sem.run_pure, Result.andThen]
            rw [hfill]
            rfl
          · have hzs : zs = v.cells := by simp [zs, h0]
            rw [hzs] at hfill
            rw [if_neg h0]
            simp only [Sem.run_bind, Sem.run_pure, Result.andThen, run_zeroValue hi hzv]
            rw [hfill]
            rfl
        · have hlen := chunks_length n len cs
          have := Rep.dat (w := w.alloc (.cells us' el)) (e := e.lay w.heap.size us'.size us'.size 0) n (chunks n len cs) .tight w.heap.size 0 len
            (fun i j => us'.getD (i * n + j) undef) (chunks_es n len cs (by rw [hcl, hus]; exact Nat.le_refl _)) (by rw [hlen]; exact Nat.le_refl _) (fun _ => hlen.symm)
            (fun i j v hv => by
              obtain ⟨h1, h2, h3⟩ := at2_chunks hv
              have h4 : i * n + j < us'.size := by rw [← hcl]; exact (List.getElem?_eq_some_iff.1 h3).1
              refine ⟨?_, .inr ⟨rfl, by omega⟩⟩
              unfold cel World.cell?
              rw [World.alloc_heap_new]
              simp [h4])
            (fun i j v hv => by
              obtain ⟨h1, h2, h3⟩ := at2_chunks hv
              have h4 : i * n + j < us'.size := by rw [← hcl]; exact (List.getElem?_eq_some_iff.1 h3).1
              have hr := ((hreps.2 _ v _ h3 (by rw [Array.getElem?_toList, Array.getElem?_eq_getElem h4])).1.mono mo).toPure (List.all_eq_true.1 hdata v (List.mem_of_getElem? h3))
              simpa [h4] using hr)
          rw [hlen] at this
          exact this
      · exact hk.elim
    · exact hk.elim
  · exact hk.elim

end Go.Abs
