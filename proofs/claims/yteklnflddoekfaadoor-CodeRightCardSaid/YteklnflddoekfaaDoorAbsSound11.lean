/- Rounds; ranges over functions. -/
import Derived.Test.YteklnflddoekfaaDoorAbsSound10
namespace Go.Abs
open Go.RowKit

variable {P : Program} {G : Nat → Option (List V)}

theorem strip_demote (p : Nat → Bool) (v : V) : (V.demote p v).strip = v.strip := by
  cases v with
  | dat es rows fl => cases fl with
    | cls c => by_cases h : p c = true <;> simp [V.demote, V.strip, h]
    | _ => rfl
  | _ => rfl

theorem Reps.set {w : World} {e : Env} {vs : List V} {us : Array Value} (h : Reps w e vs us.toList) (p : Nat) {v : V} {u : Value} (hv : RepF w e v u) : Reps w e (vs.set p v) (us.setIfInBounds p u).toList := by
  refine ⟨by simpa using h.1, fun i x y hx hy => ?_⟩
  rw [Array.toList_setIfInBounds] at hy
  rw [List.getElem?_set] at hx hy
  by_cases hp : p = i
  · subst hp
    rw [if_pos rfl] at hx hy
    split at hx
    · split at hy
      · cases hx; cases hy; exact hv
      · cases hy
    · cases hx
  · rw [if_neg hp] at hx hy
    exact h.2 i x y hx hy

/-- Parameters get their values. -/
def setParams : List Tmp → List V → List V → List V
  | p :: ps, a :: as, ts => setParams ps as (ts.set p a)
  | _, _, ts => ts

theorem reps_params {w : World} {e : Env} (ps : List Tmp) : ∀ (as : List V) (us : List Value) (ts : List V) (xs : Array Value), Reps w e as us → Reps w e ts xs.toList →
    Reps w e (setParams ps as ts) ((ps.zip us).foldl (fun tmps (x : Tmp × Value) => tmps.setIfInBounds x.1 x.2) xs).toList := by
  induction ps with
  | nil => intro as us ts xs h1 h2; cases as <;> exact h2
  | cons p ps ih =>
    intro as us ts xs h1 h2
    cases as with
    | nil =>
      cases us with
      | nil => exact h2
      | cons u us => have := h1.1; simp at this
    | cons a as =>
      cases us with
      | nil => have := h1.1; simp at this
      | cons u us =>
        exact ih as us _ _ ⟨by have := h1.1; simpa using this, fun i x y hx hy => h1.2 (i + 1) x y (by simpa using hx) (by simpa using hy)⟩ (h2.set p (h1.2 0 a u rfl rfl))

theorem RepBlk.loopInv {w : World} {e : Env} {r : Nat} {st : LoopState} {pend : Option Code} {tmps : List V} {ps : Array Tmp} {as bd : Code} {d : Nat} (h : RepBlk w e r (.loop st pend tmps ps as bd d)) :
    ∃ fn us, w.heap[r]? = some (.loop { state := st, pending := pend, fn, tmps := us, params := ps, assign := as, body := bd, defers := e.ρ d }) ∧ d < e.N ∧ tmps.length = us.size ∧
      (∀ (i : Nat) (v : V) (u : Value), tmps[i]? = some v → us[i]? = some u → Rep w e v u) := by
  cases h with
  | loop _ _ fn _ _ _ _ _ us hb hd hl hh => exact ⟨fn, us, hb, hd, hl, hh⟩

/-- The record changes its state. -/
theorem RHeap.setLoop {H : Heap} {w : World} {e : Env} (hR : RHeap G H w e) {id : Nat} {st : LoopState} {pend : Option Code} {tmps : List V} {ps : Array Tmp} {as bd : Code} {d : Nat}
    (hid : H[id]? = some (some (.loop st pend tmps ps as bd d))) (st' : LoopState) (pend' : Option Code) (fn : FuncId) (us : Array Value)
    (_hb : w.heap[e.ρ id]? = some (.loop { state := st, pending := pend, fn, tmps := us, params := ps, assign := as, body := bd, defers := e.ρ d }))
    (hd : d < e.N) (hl : tmps.length = us.size) (hh : ∀ (i : Nat) (v : V) (u : Value), tmps[i]? = some v → us[i]? = some u → Rep w e v u) :
    let w' := w.putObj (e.ρ id) (.loop { state := st', pending := pend', fn, tmps := us, params := ps, assign := as, body := bd, defers := e.ρ d })
    Mono w e w' e ∧ RHeap G (H.set id (some (.loop st' pend' tmps ps as bd d))) w' e ∧ Ext H w e (H.set id (some (.loop st' pend' tmps ps as bd d))) w' e := by
  have hlive : live H id := ⟨_, hid⟩
  refine hR.setBlk hlive _ (fun r hr => World.putObj_heap_other hr) World.putObj_size ⟨rfl, rfl, rfl⟩ fun m => ?_
  exact .loop st' pend' fn tmps ps as bd d us (World.putObj_heap_same (hR.liveLt hlive)) hd hl fun i v u hv hu => (hh i v u hv hu).mono m

/-- What a round's end owes. -/
def roundΦ (id : Nat) (Ψ : V → Heap → Prop) (x : Exit) (σ : St) : Prop :=
  match σ.H[id]? with
  | some (some (.loop _ _ tmps ps as bd d)) => match x with
    | .normal => Ψ (.bool true) (σ.H.set id (some (.loop .ready none tmps ps as bd d)))
    | .ret => Ψ (.bool false) (σ.H.set id (some (.loop .done (some .ret) tmps ps as bd d)))
    | .exit i => Ψ (.bool false) (σ.H.set id (some (.loop .done (some (.exit i)) tmps ps as bd d)))
    | .goto l => Ψ (.bool false) (σ.H.set id (some (.loop .done (some (.goto l)) tmps ps as bd d)))
    | _ => False
  | _ => False

theorem round_end {w0 : World} {e0 : Env} {H0 : Heap} {id : Nat} {Ψ : V → Heap → Prop} {x : Exit} {σ : St} {a : Act} {w : World} {e : Env} (h : RSt G σ a w e) (hx : Ext H0 w0 e0 σ.H w e) (hid : e.ρ id = e0.ρ id)
    (hk : roundΦ id Ψ x σ) :
    roundPost P (e0.ρ id) (fun en w' => ∃ v r H' e', en = .returned v ∧ Ψ r H' ∧ RHeap G H' w' e' ∧ RepF w' e' r v ∧ Ext H0 w0 e0 H' w' e') x a w := by
  unfold roundΦ at hk
  split at hk
  · rename_i st pend tmps ps as bd d hH
    obtain ⟨fn, us, hb, hd, hl, hh⟩ := (h.heap.blk id _ hH).loopInv
    rw [← hid]
    have fin : ∀ (jump : Option Code) (st' : LoopState), st' = (if jump.isNone then .ready else .done) →
        Ψ (.bool jump.isNone) (σ.H.set id (some (.loop st' jump tmps ps as bd d))) →
        ∃ v w', (Instr.endRound (e.ρ id) jump).run P w = .ok v w' ∧ ∃ v' r H' e', Ending.returned v = .returned v' ∧ Ψ r H' ∧ RHeap G H' w' e' ∧ RepF w' e' r v' ∧ Ext H0 w0 e0 H' w' e' := by
      intro jump st' hst hΨ
      subst hst
      obtain ⟨m, hR', hx'⟩ := h.heap.setLoop hH (if jump.isNone then .ready else .done) jump fn us hb hd hl hh
      exact ⟨_, _, run_endRound jump hb, _, _, _, e, rfl, hΨ, hR', repF_im _ _ _, hx.trans hx'⟩
    cases x with
    | normal => exact fin none .ready rfl hk
    | ret => exact fin (some .ret) .done rfl hk
    | exit i => exact fin (some (.exit i)) .done rfl hk
    | goto l => exact fin (some (.goto l)) .done rfl hk
    | panic c => exact hk.elim
    | outgrown => exact hk.elim
  · exact hk.elim

theorem WPc.mono {c : Code} {Φ Φ' : Exit → St → Prop} {σ : St} (h : WPc P G c Φ σ) (hm : ∀ x σ', Φ x σ' → Φ' x σ') : WPc P G c Φ' σ := fun a w e hst =>
  wpIn_mono (h a w e hst) fun _ _ _ ⟨σ', e', h1, h2⟩ => ⟨σ', e', hm _ _ h1, h2⟩

/-- A round, out of the loop's record. -/
theorem stYield {id : Nat} {pend : Option Code} {tmps : List V} {ps : Array Tmp} {as bd : Code} {d : Nat} {args : List V} {H : Heap} {Ψ : V → Heap → Prop}
    (hid : H[id]? = some (some (.loop .ready pend tmps ps as bd d))) (hs : args.length = ps.size)
    (hk : WPc P G as (fun x σ1 => x = .normal ∧ σ1.H[id]? = some (some (.loop .ready pend tmps ps as bd d)) ∧
        WPc P G bd (roundΦ id Ψ) { σ1 with H := σ1.H.set id (some (.loop .busy pend tmps ps as bd d)) })
      { tmps := setParams ps.toList args (tmps.map V.strip), H := H, defs := [], cur := some id }) : StYield P G id args H Ψ := by
  intro w e us hR hargs
  obtain ⟨fn, us0, hb, hd, hl, hh⟩ := (hR.blk id _ hid).loopInv
  refine ⟨_, _, _, _, _, _, _, rfl, run_yield hb (by simpa using hargs.1.symm.trans hs), rfl, ?_⟩
  refine roundIn_of_wpIn trivial ?_
  have hN : id < e.N := by rw [hR.len]; exact (List.getElem?_eq_some_iff.1 hid).1
  have ht : Reps w e (setParams ps.toList args (tmps.map V.strip)) ((ps.zip us.toArray).foldl (fun tmps (x : Tmp × Value) => tmps.setIfInBounds x.1 x.2) us0).toList := by
    have := reps_params ps.toList args us (tmps.map V.strip) us0 hargs ⟨by simpa using hl, fun i v u hv hu => by
      rw [List.getElem?_map] at hv
      obtain ⟨v', hv', rfl⟩ := Option.map_eq_some_iff.1 hv
      exact (hh i v' u hv' (by simpa using hu)).strip⟩
    rw [← Array.foldl_toList]
    simpa using this
  have hst : RSt G { tmps := setParams ps.toList args (tmps.map V.strip), H := H, defs := [], cur := some id } { tmps := (ps.zip us.toArray).foldl (fun tmps (x : Tmp × Value) => tmps.setIfInBounds x.1 x.2) us0, defers := [] } w e :=
    ⟨hR, ht, rfl, fun i hi => by simp at hi, fun i hi => by simp at hi; omega⟩
  refine wpIn_mono (hk _ w e hst) ?_
  rintro x a1 w1 ⟨σ1, e1, ⟨rfl, hH1, hk1⟩, hc1, hst1, hx1⟩
  obtain ⟨fn1, us1, hb1, hd1, hl1, hh1⟩ := (hst1.heap.blk id _ hH1).loopInv
  have hρ : e1.ρ id = e.ρ id := hx1.ρ id (by rw [← hR.len]; exact hN)
  obtain ⟨m, hR2, hx2⟩ := hst1.heap.setLoop hH1 .busy pend fn1 us1 hb1 hd1 hl1 hh1
  refine ⟨_, run_beginRound (by rw [← hρ]; exact hb1) rfl, ?_⟩
  rw [← hρ]
  have hst2 := hst1.setBlk m hR2
  have := hk1 a1 _ e1 hst2
  simp only [hc1, Option.map_some] at this
  refine wpIn_mono this ?_
  rintro x a3 w3 ⟨σ3, e3, hΦ, hc3, hst3, hx3⟩
  have hρ3 : e3.ρ id = e.ρ id := by
    refine Eq.trans (hx3.ρ id ?_) hρ
    have := live_lt ⟨_, hH1⟩
    simpa using this
  rw [hρ]
  exact round_end hst3 ((hx1.trans hx2).trans hx3) hρ3 hΦ

theorem RHeap.forget {H : Heap} {w : World} {e : Env} (hR : RHeap G H w e) (id : Nat) : RHeap G (H.set id none) w e ∧ ∀ j, live (H.set id none) j → live H j := by
  have hl : ∀ j, live (H.set id none) j → live H j ∧ (H.set id none)[j]? = H[j]? := by
    rintro j ⟨b, hb⟩
    by_cases hj : id = j
    · subst hj
      rw [List.getElem?_set] at hb
      simp at hb
    · rw [List.getElem?_set_ne hj] at hb ⊢
      exact ⟨⟨b, hb⟩, rfl⟩
  refine ⟨⟨by simp [hR.len], fun j b hb => ?_, fun i j hi hj => hR.inj i j (hl i hi).1 (hl j hj).1, hR.ro, fun j o hj => hR.roOwn j o (hl j hj).1, fun c b o h => ?_, hR.spd, hR.glob⟩, fun j hj => (hl j hj).1⟩
  · have := (hl j ⟨b, hb⟩).2
    rw [this] at hb
    exact hR.blk j b hb
  · obtain ⟨h1, h2, h3, h4⟩ := hR.sp c b o h
    exact ⟨h1, h2, h3, fun j hj => h4 j (hl j hj).1⟩

theorem Ext.forget {H0 H : Heap} {w0 w : World} {e0 e : Env} (hx : Ext H0 w0 e0 H w e) (id : Nat) (hl : ∀ j, live (H.set id none) j → live H j) : Ext H0 w0 e0 (H.set id none) w e :=
  ⟨hx.os, hx.tape, hx.output, hx.size, by simpa using hx.len, hx.ρ, fun j h1 h2 => hx.new j h1 (hl j h2), fun j h1 h2 => hx.old j h1 (hl j h2), hx.ro, hx.roNew, hx.spNew, hx.cell, hx.block⟩

/-- Behind a range over a function: the record has been given up, the pending jump is taken. -/
def rangeΦ (P : Program) (G : Nat → Option (List V)) (id : Nat) (σ : St) (ds : List Nat) (Φ : Exit → St → Prop) (H2 : Heap) : Prop :=
  match H2[id]? with
  | some (some (.loop st pend _ _ _ _ _)) => st ≠ .busy ∧ match pend with
    | none => Φ .normal { σ with tmps := σ.tmps.map V.strip, H := H2.set id none, defs := ds }
    | some c => evCode P G c Φ { σ with tmps := σ.tmps.map V.strip, H := H2.set id none, defs := ds }
  | _ => False

/-- A range over a function, at no other one. -/
theorem wpc_rangeFunc {f : Operand} {ps : Array Tmp} {as bd : Code} {Φ : Exit → St → Prop} {σ : St} {g : FuncId} {fn : Func} {first caps : List V}
    (hcur : σ.cur = none) (hf : σ.ev f = .fn (.func g) first caps) (hfn : P.funcs[g]? = some fn) (hbody : fn.body.isSome) (hname : (fn.name == "runtime.NumGoroutine") = false)
    (hk : StCall P G g ((first ++ [V.yld (σ.H.length + 1)] ++ caps).map V.strip) (σ.H ++ [some .defd] ++ [some (.loop .ready none (σ.tmps.map V.strip) ps as bd σ.H.length)])
      fun _ H2 => rangeΦ P G (σ.H.length + 1) σ (σ.H.length :: σ.defs) Φ H2) : WPc P G (.rangeFunc f ps as bd) Φ σ := by
  intro a w e h
  rw [hcur]
  refine wpIn_rangeFunc fun fn0 _ => ?_
  have hN := h.heap.len
  -- the two blocks
  let o1 : Obj := .deferred (some [])
  have hst1 := h.push o1 .defd (.defd (World.alloc_heap_new w o1))
  have hx1 := (h.heap.push o1 .defd (.defd (World.alloc_heap_new w o1))).2
  let w1 := w.alloc o1
  let e1 := e.push w.heap.size
  have hρ1 : e1.ρ σ.H.length = w.heap.size := by rw [← hN]; exact e.push_new _
  let o2 : Obj := .loop { state := .ready, pending := none, fn := fn0, tmps := a.tmps, params := ps, assign := as, body := bd, defers := w.heap.size }
  have hN1 : e1.N = σ.H.length + 1 := by show e.N + 1 = _; omega
  have hb2 : RepBlk (w1.alloc o2) (e1.push w1.heap.size) w1.heap.size (.loop .ready none (σ.tmps.map V.strip) ps as bd σ.H.length) := by
    have m2 : Mono w1 e1 (w1.alloc o2) (e1.push w1.heap.size) := Mono.push hst1.heap o2 _
    refine .loop .ready none fn0 _ ps as bd σ.H.length a.tmps ?_ ?_ ?_ fun i v u hv hu => ?_
    · rw [World.alloc_heap_new w1 o2, e1.push_old _ (by omega), hρ1]
    · show σ.H.length < e1.N + 1
      omega
    · have := h.tmps.1
      simpa using this
    · rw [List.getElem?_map] at hv
      obtain ⟨v', hv', rfl⟩ := Option.map_eq_some_iff.1 hv
      exact ((hst1.tmps.2 i v' u hv' (by simpa using hu)).1.mono m2).strip.1
  have hst2 := hst1.push o2 _ hb2
  have hx2 := (hst1.heap.push o2 _ hb2).2
  let w2 := w1.alloc o2
  let e2 := e1.push w1.heap.size
  have hρ2 : e2.ρ (σ.H.length + 1) = w.heap.size + 1 := by
    have : e2.ρ e1.N = w1.heap.size := e1.push_new _
    rw [hN1] at this
    rw [this]
    simp [w1]
  have hfv := hst2.ev f
  have hev : ({ { σ with H := σ.H ++ [some Blk.defd] } with H := σ.H ++ [some Blk.defd] ++ [some (Blk.loop .ready none (σ.tmps.map V.strip) ps as bd σ.H.length)] } : St).ev f = .fn (.func g) first caps := by
    cases f <;> exact hf
  rw [hev] at hfv
  generalize huf : a.eval f = uf at hfv
  obtain ⟨hf1, _⟩ := hfv
  cases hf1 with
  | fn _ _ _ first' caps' hl1 hl2 hr1 hr2 =>
    refine ⟨w.heap.size + 1, _, w2, ⟨.fn (.func g) caps', first' ++ #[.func (.yield (w.heap.size + 1)) #[] #[]]⟩, w2, g, (first' ++ #[.func (.yield (w.heap.size + 1)) #[] #[]]) ++ caps', w2, run_enterLoop_outer fn0 a.tmps ps as bd, ?_, fun _ _ => trivial, ?_, fun hh => by simp [FW, Fence.wide] at hh, ?_⟩
    · simp only [resolve, huf]
      simp [Deferred.ofValue, Act.eval]
    · simp only [invoke, callFunc, program, Sem.run_bind, Result.andThen]
      simp only [Sem.run, hfn, hname, Bool.false_eq_true, if_false]
      rw [if_neg (by rw [Option.isNone_iff_eq_none]; exact Option.isSome_iff_ne_none.1 hbody)]
      rfl
    · have hall : Reps w2 (e2.hide (heapCls (σ.H ++ [some Blk.defd] ++ [some (Blk.loop .ready none (σ.tmps.map V.strip) ps as bd σ.H.length)]))) ((first ++ [V.yld (σ.H.length + 1)] ++ caps).map V.strip) ((first' ++ #[Value.func (.yield (w.heap.size + 1)) #[] #[]]) ++ caps').toList := by
        refine ⟨by simp [hl1, hl2], fun i v u hv hu => ?_⟩
        rw [List.getElem?_map] at hv
        obtain ⟨v', hv', rfl⟩ := Option.map_eq_some_iff.1 hv
        have hrep : Rep w2 e2 v' u := by
          simp only [Array.toList_append, List.append_assoc] at hu hv'
          by_cases hi : i < first.length
          · rw [List.getElem?_append_left hi] at hv'
            rw [List.getElem?_append_left (by simpa [← hl1] using hi)] at hu
            exact hr1 i v' u hv' (by simpa using hu)
          · rw [List.getElem?_append_right (by omega)] at hv'
            rw [List.getElem?_append_right (by simp [← hl1]; omega)] at hu
            simp only [Array.length_toList, ← hl1] at hu
            obtain ⟨j, hj⟩ : ∃ j, i - first.length = j := ⟨_, rfl⟩
            rw [hj] at hv' hu
            cases j with
            | zero =>
              simp at hv' hu
              subst hv'; subst hu
              rw [← hρ2]
              refine .yld _ ?_
              show σ.H.length + 1 < e1.N + 1
              omega
            | succ j => exact hr2 j v' u (by simpa using hv') (by simpa using hu)
        exact (hrep.hide _).strip
      refine CallsIn.mono (F := Fence.wide) (hk w2 _ _ hst2.heap.hide hall) ?_
      rintro en w' ⟨v, r, H', e', rfl, hΦ, hR', hv, hx⟩
      have hst3 := hst2.after hR' hx
      obtain ⟨_, _, hx3⟩ := unhide_ok hst2.heap hR' hx
      let e3 := e'.unhide e2 (heapCls (σ.H ++ [some Blk.defd] ++ [some (Blk.loop .ready none (σ.tmps.map V.strip) ps as bd σ.H.length)]))
      unfold rangeΦ at hΦ
      split at hΦ
      · rename_i st pend tmps' ps' as' bd' d' hH
        obtain ⟨hbusy, hΦ⟩ := hΦ
        obtain ⟨fn1, us1, hb1, hd1, hl1', hh1⟩ := (hst3.heap.blk _ _ hH).loopInv
        have hρ3 : e3.ρ (σ.H.length + 1) = w.heap.size + 1 := by rw [← hρ2]; exact hx3.ρ _ (by simp)
        have hρ3' : e3.ρ σ.H.length = w.heap.size := by
          rw [hx3.ρ _ (by simp)]
          show e2.ρ _ = _
          rw [e1.push_old _ (by omega), hρ1]
        obtain ⟨m4, hR4, hx4⟩ := hst3.heap.setLoop hH .exhausted pend fn1 us1 hb1 hd1 hl1' hh1
        obtain ⟨hR5, hl5⟩ := hR4.forget (σ.H.length + 1)
        have hx5 := hx4.forget (σ.H.length + 1) hl5
        have hset : ∀ b : Option Blk, (H'.set (σ.H.length + 1) b).set (σ.H.length + 1) none = H'.set (σ.H.length + 1) none := fun b => List.set_set ..
        have hN5 := hR5.len
        have hend := run_endLoop (P := P) hb1 hbusy
        rw [hρ3] at hend
        refine ⟨_, _, hend, ?_⟩
        have ht : Reps w' e3 (σ.tmps.map V.strip) a.tmps.toList := by
          have := hst3.tmps.strip
          simp only [St.afterCall, List.map_map] at this
          refine (List.map_congr_left fun v _ => ?_) ▸ this
          exact strip_demote _ v
        have hst5 : RSt G { σ with tmps := σ.tmps.map V.strip, H := H'.set (σ.H.length + 1) none, defs := σ.H.length :: σ.defs } { a with defers := [{ target := .collected w.heap.size, args := #[] }] ++ a.defers }
            (w'.putObj (e3.ρ (σ.H.length + 1)) (.loop { state := .exhausted, pending := pend, fn := fn1, tmps := us1, params := ps', assign := as', body := bd', defers := e3.ρ d' })) e3 := by
          refine ⟨by rw [← hset]; exact hR5, ht.mono m4, ?_, ?_, fun id hid => by rw [hcur] at hid; cases hid⟩
          · have := hst3.defs
            simp only [St.afterCall] at this
            rw [this]
            simp only [List.map_cons, List.singleton_append]
            rw [hρ3']
          · intro id hid
            simp only [List.mem_cons] at hid
            have h1 : e3.N = H'.length := by
              have := hst3.heap.len
              exact this
            have h2 := hx3.len
            simp at h2
            rcases hid with rfl | hid
            · omega
            · have := h.defsN id hid
              omega
        have hxall : Ext σ.H w e (H'.set (σ.H.length + 1) none) (w'.putObj (e3.ρ (σ.H.length + 1)) (.loop { state := .exhausted, pending := pend, fn := fn1, tmps := us1, params := ps', assign := as', body := bd', defers := e3.ρ d' })) e3 := by
          rw [← hset]
          exact ((hx1.trans hx2).trans hx3).trans hx5
        rw [← hρ3]
        cases pend with
        | none => exact ⟨_, e3, hΦ, hcur.symm ▸ hcur, hst5, hxall⟩
        | some c =>
          have := evCode_sound c _ _ hΦ _ _ _ hst5
          simp only [hcur] at this
          refine wpIn_mono this ?_
          rintro x a6 w6 ⟨σ6, e6, hΦ6, hc6, hst6, hx6⟩
          exact ⟨σ6, e6, hΦ6, hc6, hst6, hxall.trans hx6⟩
      · exact hΦ.elim
end Go.Abs
