/- Loads, stores, arithmetic, parts. -/
import Derived.Test.YteklnflddoekfaaDoorAbsSound2
namespace Go.Abs
open Go.RowKit

variable {P : Program} {G : Nat → Option (List V)}

theorem blk_cel {w : World} {e : Env} {r : Nat} {t : TypeId} {vs : List V} (h : RepBlk w e r (.cells t vs)) :
    ∃ cs : Array Value, w.heap[r]? = some (.cells cs t (0, 0)) ∧ vs.length ≤ cs.size ∧ (∀ j, j < cs.size → cel w r j = some (cs.getD j undef)) ∧
      ∀ (i : Nat) (v : V), vs[i]? = some v → RepF w e v (cs.getD i undef) := by
  cases h with
  | cells t vs cs hb hl h =>
    refine ⟨cs, hb, hl, fun j hj => ?_, fun i v hv => ?_⟩
    · unfold cel World.cell?
      simp [hb, hj]
    · have hi : i < cs.size := Nat.lt_of_lt_of_le (List.getElem?_eq_some_iff.1 hv).1 hl
      refine h i v _ hv ?_
      simp [hi]

/-! ### load -/
theorem op_load {o : Oper} {σ : St} {a : Act} {w : World} {e : Env} {k : V → St → Prop} (h : RSt G σ a w e) (t : TypeId) (x : Operand) (ho : o.op = .load t x) (hk : evOp P G o σ k) :
    OpDone P G o σ a w e k := by
  simp only [evOp, ho] at hk
  have hx := asRp_repF h.heap (h.ev x)
  have main : ∀ (b off : Nat) (vs : List V) (us : Nat → Value), a.eval x = .pointer (some ⟨b, off, none⟩) →
      (∀ (j : Nat) (v : V), vs[j]? = some v → cel w b (off + j) = some (us j)) → (∀ (j : Nat) (v : V), vs[j]? = some v → Rep w e v (us j)) →
      (∀ (j : Nat) (v : V), vs[j]? = some v → FlagOk e v (us j)) → evLoadCells P t vs (fun v => k v σ) → OpDone P G o σ a w e k := by
    intro b off vs us hp h1 h2 h3 hl
    obtain ⟨u, v, hr, hk, hv⟩ := load_cells (F := FlagOk e) t h1 h2 h3 hl
    have hv : RepF w e v u := ⟨hv.1, hv.2 (by simp [FlagOk])⟩
    refine opDone_pure h (u := u) ?_ hk hv
    simp only [execOp, ho, hp]
    refine run_value ?_
    unfold Instr.loadAt Instr.sureAddr
    exact hr
  generalize hv : asRp G (σ.ev x) = v at hk hx
  obtain ⟨hx1, hx2⟩ := hx
  cases v with
  | ptr id off =>
    simp only [evLoad] at hk
    split at hk
    · rename_i t' vs hH
      generalize hu : a.eval x = u at hx1
      cases hx1 with
      | ptr id off hid =>
        obtain ⟨cs, hb, hl, hc, hr⟩ := blk_cel (h.heap.blk id _ hH)
        refine main (e.ρ id) off _ (fun j => cs.getD (off + j) undef) hu (fun j v hj => ?_) (fun j v hj => ?_) (fun j v hj => ?_) hk
        · rw [List.getElem?_drop] at hj
          exact hc _ (Nat.lt_of_lt_of_le (List.getElem?_eq_some_iff.1 hj).1 hl)
        · rw [List.getElem?_drop] at hj
          exact (hr _ v hj).1
        · rw [List.getElem?_drop] at hj
          exact (hr _ v hj).2
    · exact hk.elim
  | rp cs =>
    simp only [evLoad] at hk
    generalize hu : a.eval x = u at hx1
    cases hx1 with
    | rp cs b off us h1 h2 =>
      obtain ⟨u, v, hr, hk, hv⟩ := load_cells (F := fun _ _ => True) t (fun j v hj => (h1 j v hj).1) (fun j v hj => (h2 j v hj).held) (fun _ _ _ => trivial) hk
      refine opDone_pure h (u := u) ?_ hk hv.1.strip
      simp only [execOp, ho, hu]
      refine run_value ?_
      unfold Instr.loadAt Instr.sureAddr
      exact hr
  | _ => exact hk.elim

/-! ### store -/
theorem cel_setCell (w : World) (b o b' o' : Nat) (v : Value) :
    cel (w.setCell ⟨b, o, none⟩ v) b' o' = if b' = b ∧ o' = o ∧ (cel w b o).isSome then some v else cel w b' o' := by
  unfold cel World.cell? World.setCell
  simp only [Array.getElem?_modify]
  by_cases hb : b = b'
  · subst hb
    cases hh : w.heap[b]? with
    | none => simp
    | some ob =>
      cases ob with
      | cells c t fr =>
        simp only [if_true, Option.map_some, Option.isSome_none, Bool.false_eq_true, if_false, true_and]
        rw [Array.getElem?_setIfInBounds]
        by_cases ho : o = o'
        · subst ho
          by_cases hs : o < c.size
          · simp [hs]
          · simp [hs]
        · have : ¬ o' = o := fun h => ho h.symm
          simp [ho, this]
      | _ => simp
  · have : ¬ b' = b := fun h => hb h.symm
    simp [hb, this]

theorem fro_setCell (w : World) (b o b' o' : Nat) (v : Value) : fro (w.setCell ⟨b, o, none⟩ v) b' o' = fro w b' o' := by
  unfold fro World.frozen? World.setCell
  simp only [Array.getElem?_modify]
  by_cases hb : b = b'
  · subst hb
    cases hh : w.heap[b]? with
    | none => simp
    | some ob => cases ob <;> simp
  · simp [hb]

/-- The value of one cell. -/
def one : Value → Bool
  | .agg _ | .tuple _ => false
  | _ => true

/-- Some cells of a block, in a row, get new values. -/
def setCells (w : World) (b o : Nat) : List Value → World
  | [] => w
  | v :: rest => setCells (w.setCell ⟨b, o, none⟩ v) b (o + 1) rest

theorem setCells_heap (b : Nat) (t : TypeId) (vs : List Value) : ∀ (w : World) (o : Nat) (cs : Array Value), w.heap[b]? = some (.cells cs t (0, 0)) →
    ∃ cs' : Array Value, (setCells w b o vs).heap[b]? = some (.cells cs' t (0, 0)) ∧ cs'.size = cs.size ∧
      ∀ j, cs'[j]? = if o ≤ j ∧ j < o + vs.length ∧ j < cs.size then vs[j - o]? else cs[j]? := by
  induction vs with
  | nil => intro w o cs h; exact ⟨cs, h, rfl, fun j => by rw [if_neg (by simp; omega)]⟩
  | cons v rest ih =>
    intro w o cs h
    have h1 : (w.setCell ⟨b, o, none⟩ v).heap[b]? = some (.cells (cs.setIfInBounds o v) t (0, 0)) := by
      simp [World.setCell, Array.getElem?_modify, h]
    obtain ⟨cs', h2, h3, h4⟩ := ih _ (o + 1) _ h1
    refine ⟨cs', h2, by simpa using h3, fun j => ?_⟩
    rw [h4 j, Array.getElem?_setIfInBounds]
    simp only [Array.size_setIfInBounds, List.length_cons]
    by_cases hj : o = j
    · subst hj
      rw [if_neg (by omega)]
      by_cases hs : o < cs.size
      · simp [hs]
      · simp [hs]
    · by_cases h5 : o + 1 ≤ j ∧ j < o + 1 + rest.length ∧ j < cs.size
      · rw [if_pos h5, if_pos (by omega)]
        obtain ⟨k, hk⟩ : ∃ k, j - o = k + 1 := ⟨j - o - 1, by omega⟩
        rw [hk, show j - (o + 1) = k by omega]
        simp
      · rw [if_neg h5, if_neg hj]
        by_cases h6 : o ≤ j ∧ j < o + (rest.length + 1) ∧ j < cs.size
        · omega
        · rw [if_neg h6]

theorem setCells_other (b : Nat) (vs : List Value) : ∀ (w : World) (o b' : Nat), b' ≠ b → (setCells w b o vs).heap[b']? = w.heap[b']? := by
  induction vs with
  | nil => intro w o b' _; rfl
  | cons v rest ih =>
    intro w o b' h
    rw [setCells, ih _ _ _ h]
    exact Below.heap_setCell _ _ _ _ h

theorem setCells_size (b : Nat) (vs : List Value) : ∀ (w : World) (o : Nat), (setCells w b o vs).heap.size = w.heap.size := by
  induction vs with
  | nil => intro w o; rfl
  | cons v rest ih => intro w o; rw [setCells, ih]; simp [World.setCell]

theorem setCells_rest (b : Nat) (vs : List Value) : ∀ (w : World) (o : Nat), (setCells w b o vs).os = w.os ∧ (setCells w b o vs).tape = w.tape ∧ (setCells w b o vs).output = w.output := by
  induction vs with
  | nil => intro w o; exact ⟨rfl, rfl, rfl⟩
  | cons v rest ih => intro w o; exact ih _ _

theorem run_storeCells (b : Nat) (t : TypeId) (vs : List Value) : ∀ (w : World) (o i : Nat) (cs : Array Value), w.heap[b]? = some (.cells cs t (0, 0)) → o + i + vs.length ≤ cs.size → (∀ v ∈ vs, one v = true) →
    (storeCells ⟨b, o, none⟩ vs i).run P w = .ok () (setCells w b (o + i) vs) := by
  induction vs with
  | nil => intro w o i cs _ _ _; rfl
  | cons v rest ih =>
    intro w o i cs h hl h1
    simp only [storeCells]
    rw [Sem.run_bind, addr_add]
    have hs : (store ⟨b, o + i, none⟩ v).run P w = .ok () (w.setCell ⟨b, o + i, none⟩ v) := by
      have hc : w.cell? ⟨b, o + i, none⟩ = some (cs.getD (o + i) undef) := by
        have : o + i < cs.size := by simp at hl; omega
        unfold World.cell?
        simp [h, this]
      have hf : w.frozen? ⟨b, o + i, none⟩ = false := by
        unfold World.frozen?
        simp [h]
      have hv := h1 v (by simp)
      cases v <;> first
        | (simp [one] at hv; done)
        | (simp [store, Sem.run, hc, hf])
    rw [hs]
    simp only [Result.andThen]
    have h2 : (w.setCell ⟨b, o + i, none⟩ v).heap[b]? = some (.cells (cs.setIfInBounds (o + i) v) t (0, 0)) := by
      simp [World.setCell, Array.getElem?_modify, h]
    rw [ih _ o (i + 1) _ h2 (by simp at hl ⊢; omega) (fun v hv => h1 v (by simp [hv]))]
    rfl

theorem setRange_get {vs cs : List V} {off : Nat} (h : off + cs.length ≤ vs.length) (j : Nat) :
    (setRange vs off cs)[j]? = if off ≤ j ∧ j < off + cs.length then cs[j - off]? else vs[j]? := by
  unfold setRange
  by_cases h1 : j < off
  · rw [if_neg (by omega), List.append_assoc, List.getElem?_append_left (by simp; omega), List.getElem?_take, if_pos h1]
  · by_cases h2 : j < off + cs.length
    · rw [if_pos (by omega), List.append_assoc, List.getElem?_append_right (by simp; omega), List.getElem?_append_left (by simp; omega)]
      simp only [List.length_take]
      rw [Nat.min_eq_left (by omega)]
    · rw [if_neg (by omega), List.getElem?_append_right (by simp; omega), List.getElem?_drop]
      simp only [List.length_append, List.length_take]
      rw [Nat.min_eq_left (by omega), show off + cs.length + (j - (off + cs.length)) = j by omega]

theorem setRange_length {vs cs : List V} {off : Nat} (h : off + cs.length ≤ vs.length) : (setRange vs off cs).length = vs.length := by
  simp [setRange]; omega

/-- A block that is there gets a new content, of the same kind of heap object or not. -/
theorem RHeap.setBlk {H : Heap} {w w' : World} {e : Env} (hR : RHeap G H w e) {id : Nat} (hl : live H id) (b : Blk)
    (hother : ∀ r, r ≠ e.ρ id → w'.heap[r]? = w.heap[r]?) (hsize : w'.heap.size = w.heap.size)
    (hrest : w'.os = w.os ∧ w'.tape = w.tape ∧ w'.output = w.output)
    (hb : Mono w e w' e → RepBlk w' e (e.ρ id) b) :
    Mono w e w' e ∧ RHeap G (H.set id (some b)) w' e ∧ Ext H w e (H.set id (some b)) w' e := by
  have hcel : ∀ r i, r ≠ e.ρ id → cel w' r i = cel w r i ∧ fro w' r i = fro w r i := by
    intro r i hr
    unfold cel fro World.cell? World.frozen?
    rw [hother r hr]
    exact ⟨rfl, rfl⟩
  have m : Mono w e w' e := ⟨Nat.le_refl _, fun _ _ => rfl, fun b' i h => ⟨h, (hcel b' i fun he => hR.roOwn id i hl (he ▸ h)).1⟩, fun _ _ _ h => h⟩
  have hlive : ∀ j, live (H.set id (some b)) j ↔ live H j := by
    intro j
    unfold live
    by_cases hj : id = j
    · subst hj
      have := live_lt hl
      constructor
      · exact fun _ => hl
      · exact fun _ => ⟨b, by rw [List.getElem?_set_self this]⟩
    · rw [List.getElem?_set_ne hj]
  refine ⟨m, ⟨by simp [hR.len], ?_, ?_, ?_, ?_, ?_, hR.spd, ?_⟩, ⟨hrest.1, hrest.2.1, hrest.2.2, by omega, by simp, fun _ _ => rfl, ?_, fun j _ h => (hlive j).1 h, fun _ _ h => h, fun _ _ h => .inl h, fun c _ _ h => .inr ⟨c, h⟩, ?_, ?_⟩⟩
  · intro j b' hj
    by_cases hjid : id = j
    · subst hjid
      rw [List.getElem?_set_self (live_lt hl)] at hj
      simp only [Option.some.injEq] at hj
      subst hj
      exact hb m
    · rw [List.getElem?_set_ne hjid] at hj
      refine (hR.blk j b' hj).mono m (hother _ fun he => hjid (hR.inj j id ⟨b', hj⟩ hl he).symm)
  · exact fun i j hi hj he => hR.inj i j ((hlive i).1 hi) ((hlive j).1 hj) he
  · intro b' i h
    rw [(m.ro b' i h).2]
    exact hR.ro b' i h
  · exact fun j i hj h => hR.roOwn j i ((hlive j).1 hj) h
  · intro c b' i h
    obtain ⟨h1, h2, h3, h4⟩ := hR.sp c b' i h
    have hne : b' ≠ e.ρ id := fun he => h4 id hl he.symm
    exact ⟨by rw [(hcel b' i hne).1]; exact h1, by rw [(hcel b' i hne).2]; exact h2, h3, fun j hj => h4 j ((hlive j).1 hj)⟩
  · exact fun g cs h => (hR.glob g cs h).mono m
  · intro j hj hl'
    have := live_lt ((hlive j).1 hl')
    omega
  · exact fun b' i _ ho _ => hcel b' i fun he => ho id hl he.symm
  · exact fun b' _ ho _ => hother b' fun he => ho id hl he.symm

theorem RSt.setBlk {σ : St} {a : Act} {w w' : World} {e : Env} (h : RSt G σ a w e) {H' : Heap} (m : Mono w e w' e) (hH : RHeap G H' w' e) : RSt G { σ with H := H' } a w' e :=
  ⟨hH, h.tmps.mono m, h.defs, h.defsN, h.cur⟩

theorem one_of_solid {w : World} {e : Env} {v : V} {u : Value} (h : Rep w e v u) (hs : v.solid = true) : one u = true := by
  cases h with
  | im => cases u <;> simp [V.solid] at hs <;> rfl
  | bad => simp [V.solid] at hs
  | agg => simp [V.solid] at hs
  | tup => simp [V.solid] at hs
  | _ => rfl

theorem op_store {o : Oper} {σ : St} {a : Act} {w : World} {e : Env} {k : V → St → Prop} (h : RSt G σ a w e) (t : TypeId) (x y : Operand) (ho : o.op = .store t x y) (hk : evOp P G o σ k) :
    OpDone P G o σ a w e k := by
  simp only [evOp, ho] at hk
  have hx := (h.ev x).1
  have hy := h.ev y
  generalize hv : σ.ev x = v at hk hx
  generalize hvy : σ.ev y = vy at hk hy
  cases v with
  | ptr id off =>
    simp only [evStore] at hk
    split at hk
    · rename_i t' vs hH
      split at hk
      · rename_i _ _ cs bb n hcs htk
        obtain ⟨hn, hle, hsol, hk⟩ := hk
        generalize hu : a.eval x = u at hx
        cases hx with
        | ptr id off hid =>
          have hlive : live σ.H id := ⟨_, hH⟩
          have hrep := reps_cells hy hcs
          obtain ⟨cur, hb, hl, hc, hr⟩ := blk_cel (h.heap.blk id _ hH)
          have hlen : (a.eval y).cells.toList.length = n := by rw [← hrep.1]; exact hn
          have hone : ∀ u ∈ (a.eval y).cells.toList, one u = true := by
            intro u hu
            obtain ⟨i, hi, rfl⟩ := List.getElem_of_mem hu
            have hi' : i < cs.length := by rw [hrep.1]; exact hi
            refine one_of_solid (hrep.2 i cs[i] _ (List.getElem?_eq_getElem hi') (List.getElem?_eq_getElem hi)).1 ?_
            exact List.all_eq_true.1 hsol _ (List.getElem_mem hi')
          obtain ⟨_, r2⟩ := tk_some htk w
          have hrun := run_storeCells (P := P) (e.ρ id) t' (a.eval y).cells.toList w off 0 cur hb (by omega) hone
          obtain ⟨cs', hb', hs', hg'⟩ := setCells_heap (e.ρ id) t' (a.eval y).cells.toList w off cur hb
          obtain ⟨m, hH', hx'⟩ := h.heap.setBlk hlive (w' := setCells w (e.ρ id) off (a.eval y).cells.toList) (.cells t' (setRange vs off cs))
            (fun r hr => setCells_other _ _ _ _ _ hr) (setCells_size _ _ _ _) (setCells_rest _ _ _ _) (fun m => by
              refine .cells t' _ cs' hb' (by rw [setRange_length (by omega), hs']; exact hl) (fun i v u hv hu => ?_)
              rw [setRange_get (by omega)] at hv
              rw [hg' i] at hu
              by_cases hi : off ≤ i ∧ i < off + cs.length
              · rw [if_pos hi] at hv
                rw [if_pos (by omega)] at hu
                exact (hrep.2 _ v u hv hu).mono m
              · rw [if_neg hi] at hv
                rw [if_neg (by omega)] at hu
                have h1 := (List.getElem?_eq_some_iff.1 hv).1
                have := hr i v hv
                have hlt : i < cur.size := by omega
                simp only [Array.getElem?_eq_getElem hlt, Option.some.injEq] at hu
                have h2 : cur.getD i undef = u := by simp [hlt, hu]
                exact (h2 ▸ this).mono m)
          refine ⟨undef, _, .tup [], _, e, .inr ⟨?_, rfl⟩, hk, rfl, h.setBlk m hH', ⟨.tup [] #[] rfl (fun i v u h => by simp at h), trivial⟩, hx'⟩
          simp only [execOp, ho, hu]
          show Sem.run P (do Instr.storeAt t _ _; pure Next.skip) w = _
          rw [Sem.run_bind]
          unfold Instr.storeAt Instr.sureAddr storeVar
          have hsz : (a.eval y).cells.size = n := by simpa using hlen
          simp only [Sem.run_bind, Sem.run_pure, Result.andThen, r2, hsz, ne_eq, not_true_eq_false, if_false]
          rw [hrun]
          rfl
      · exact hk.elim
    · exact hk.elim
  | _ => exact hk.elim

end Go.Abs
