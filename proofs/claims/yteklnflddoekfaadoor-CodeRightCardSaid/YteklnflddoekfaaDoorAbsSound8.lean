/- len, min, max, calls; all operations; regions; code. -/
import Derived.Test.YteklnflddoekfaaDoorAbsSound7
namespace Go.Abs
open Go.RowKit

variable {P : Program} {G : Nat → Option (List V)}

theorem args_eval {σ : St} {a : Act} {w : World} {e : Env} (h : RSt G σ a w e) (args : Array Operand) : Reps w e (args.toList.map σ.ev) (args.map a.eval).toList := by
  refine ⟨by simp, fun i v u hv hu => ?_⟩
  rw [List.getElem?_map] at hv
  obtain ⟨p, hp, rfl⟩ := Option.map_eq_some_iff.1 hv
  rw [Array.toList_map, List.getElem?_map, hp] at hu
  simp only [Option.map_some, Option.some.injEq] at hu
  subst hu
  exact h.ev p

theorem run_builtin {o : Oper} {a : Act} {w w' : World} {b : Builtin} {args : Array Operand} {ts : Array TypeId} {u : Value}
    (ho : o.op = .call { callee := .builtin b, args, argTypes := ts }) (cs : Array Bool) (hc : cs = args.map fun | .const _ => true | _ => false)
    (h : (builtin b ts o.type cs (args.map a.eval)).run P w = .ok (.value u) w') : (execOp a.eval o).run P w = .ok (.value u) w' := by
  subst hc
  simp only [execOp, ho, resolve]
  exact h

theorem op_builtin {o : Oper} {σ : St} {a : Act} {w : World} {e : Env} {k : V → St → Prop} (h : RSt G σ a w e) (b : Builtin) (args : Array Operand) (ts : Array TypeId)
    (ho : o.op = .call { callee := .builtin b, args, argTypes := ts }) (hk : evOp P G o σ k) : OpDone P G o σ a w e k := by
  have hk0 := hk
  simp only [evOp, ho] at hk
  obtain ⟨al⟩ := args
  obtain ⟨tl⟩ := ts
  unfold evBuiltin at hk
  split at hk
  · -- len
    rename_i x hx
    rcases al with _ | ⟨ax, _ | ⟨_, _⟩⟩
    · simp at hx
    · simp only [List.map_cons, List.map_nil, List.cons.injEq, and_true] at hx
      have hrep := h.ev ax
      rw [hx] at hrep
      split at hk
      · rename_i t ht
        subst ht
        have fin : ∀ (n : Nat) (u : Value), a.eval ax = u → (Builtin.len_ #[t] o.type #[u]).run P w = .ok (goInt n) w → k (.int .i64 n) σ → OpDone P G o σ a w e k := by
          intro n u hu hr hk
          refine opDone_pure h (u := goInt n) (run_builtin ho _ rfl ?_) hk (repF_im w e _)
          rw [← hu] at hr
          simp only [List.map_toArray, List.map_cons, List.map_nil]
          exact run_value hr
        unfold evLen at hk
        split at hk
        · obtain ⟨hu, hk⟩ := hk
          refine fin _ _ (rep_str hrep) ?_ hk
          unfold Builtin.len_
          simp only [List.getElem?_toArray, List.getElem?_cons_zero, Sem.run_bind, run_underlying' hu, Result.andThen]
          rfl
        · obtain ⟨hsome, hk⟩ := hk
          obtain ⟨⟨el, s, by_⟩, hsl⟩ := Option.isSome_iff_exists.1 hsome
          obtain ⟨i, hun, _⟩ := slOf_some hsl
          obtain ⟨h1, _⟩ := hrep
          generalize hu : a.eval ax = u at h1
          cases h1 with
          | nil =>
            refine fin 0 _ hu ?_ hk
            unfold Builtin.len_
            simp only [List.getElem?_toArray, List.getElem?_cons_zero, Sem.run_bind, run_underlying' hun, Result.andThen]
            rfl
          | dat =>
            refine fin _ _ hu ?_ hk
            unfold Builtin.len_
            simp only [List.getElem?_toArray, List.getElem?_cons_zero, Sem.run_bind, run_underlying' hun, Result.andThen]
            rfl
        · obtain ⟨hsome, hk⟩ := hk
          obtain ⟨⟨el, s, by_⟩, hsl⟩ := Option.isSome_iff_exists.1 hsome
          obtain ⟨i, hun, _⟩ := slOf_some hsl
          obtain ⟨h1, _⟩ := hrep
          generalize hu : a.eval ax = u at h1
          cases h1 with
          | arr =>
            refine fin _ _ hu ?_ hk
            unfold Builtin.len_
            simp only [List.getElem?_toArray, List.getElem?_cons_zero, Sem.run_bind, run_underlying' hun, Result.andThen]
            rfl
        · exact hk.elim
      · exact hk.elim
    · simp at hx
  · -- append
    rename_i x y hxy
    rcases al with _ | ⟨ax, _ | ⟨ay, _ | ⟨_, _⟩⟩⟩
    · simp at hxy
    · simp at hxy
    · split at hk
      · rename_i t t' ht
        subst ht
        exact op_append h _ _ ax ay ho hk0
      · exact hk.elim
    · simp at hxy
  · rename_i kd x kd' y hxy
    obtain ⟨rfl, hk⟩ := hk
    rcases al with _ | ⟨ax, _ | ⟨ay, _ | ⟨_, _⟩⟩⟩
    · simp at hxy
    · simp at hxy
    · simp only [List.map_cons, List.map_nil, List.cons.injEq, and_true] at hxy
      have h1 := h.ev ax
      have h2 := h.ev ay
      rw [hxy.1] at h1
      rw [hxy.2] at h2
      refine opDone_pure h (run_builtin ho _ rfl ?_) hk (repF_im w e _)
      simp only [List.map_toArray, List.map_cons, List.map_nil, rep_int h1, rep_int h2]
      exact run_value rfl
    · simp at hxy
  · rename_i kd x kd' y hxy
    obtain ⟨rfl, hk⟩ := hk
    rcases al with _ | ⟨ax, _ | ⟨ay, _ | ⟨_, _⟩⟩⟩
    · simp at hxy
    · simp at hxy
    · simp only [List.map_cons, List.map_nil, List.cons.injEq, and_true] at hxy
      have h1 := h.ev ax
      have h2 := h.ev ay
      rw [hxy.1] at h1
      rw [hxy.2] at h2
      refine opDone_pure h (run_builtin ho _ rfl ?_) hk (repF_im w e _)
      simp only [List.map_toArray, List.map_cons, List.map_nil, rep_int h1, rep_int h2]
      exact run_value rfl
    · simp at hxy
  · exact hk.elim

/-! ### calls -/

theorem Reps.strip {w : World} {e : Env} {vs : List V} {us : List Value} (h : Reps w e vs us) : Reps w e (vs.map V.strip) us := by
  refine ⟨by simpa using h.1, fun i v u hv hu => ?_⟩
  rw [List.getElem?_map] at hv
  obtain ⟨v', hv', rfl⟩ := Option.map_eq_some_iff.1 hv
  exact (h.2 i v' u hv' hu).1.strip

/-- A state in which nobody but the callee's blocks has spare places: what the callee is shown. -/
def Env.hide (e : Env) (p : Nat → Bool) : Env := { e with Sp := fun c b o => p c = true ∧ e.Sp c b o }

theorem Rep.hide {w : World} {e : Env} {v : V} {u : Value} (p : Nat → Bool) (h : Rep w e v u) : Rep w (e.hide p) v u :=
  h.mono' (e := e) (e' := e.hide p) (Nat.le_refl e.N) (fun _ _ => rfl) fun _ _ h => ⟨h, rfl⟩

theorem RepF.hide {w : World} {e : Env} {v : V} {u : Value} (p : Nat → Bool) (h : RepF w e v u) (hp : ∀ es rows c, v = .dat es rows (.cls c) → p c = true) : RepF w (e.hide p) v u :=
  ⟨h.1.hide p, h.2.mono fun es rows c hv _ _ hs => ⟨hp es rows c hv, hs⟩⟩

theorem RHeap.hide {H : Heap} {w : World} {e : Env} (hR : RHeap G H w e) : RHeap G H w (e.hide (heapCls H)) := by
  refine ⟨hR.len, fun id b hb => ?_, hR.inj, hR.ro, hR.roOwn, fun c b o h => hR.sp c b o h.2, fun c c' b o h1 h2 => hR.spd c c' b o h1.2 h2.2, fun g cs h => (hR.glob g cs h).hide _⟩
  have hb0 := hR.blk id b hb
  show RepBlk w _ (e.ρ id) b
  cases hb0 with
  | cells t vs cs hc hl h =>
    refine .cells t vs cs hc hl fun i v u hv hu => (h i v u hv hu).hide _ fun es rows c hcl => ?_
    unfold heapCls
    rw [List.any_eq_true]
    refine ⟨some (.cells t vs), List.mem_of_getElem? hb, ?_⟩
    simp only [Blk.hasCls, List.any_eq_true]
    exact ⟨v, List.mem_of_getElem? hv, by rw [hcl]; simp [V.hasCls]⟩
  | map es ms clock hc hl hk h => exact .map es ms clock hc hl hk fun i x y hx hy => ⟨(h i x y hx hy).1.hide _, (h i x y hx hy).2.hide _⟩
  | iter k since stepped seen hc hd => exact .iter k since stepped seen hc hd
  | loop st pend fn tmps params assign body d us hc hd hl h => exact .loop st pend fn tmps params assign body d us hc hd hl fun i v u hv hu => (h i v u hv hu).hide _
  | defd hc => exact .defd hc

/-- What was hidden comes back. -/
def Env.unhide (e' e : Env) (p : Nat → Bool) : Env := { e' with Sp := fun c b o => e'.Sp c b o ∨ (p c = false ∧ e.Sp c b o) }

theorem unhide_ok {H H' : Heap} {w w' : World} {e e' : Env} {p : Nat → Bool} (hR : RHeap G H w e) (hR' : RHeap G H' w' e') (hx : Ext H w (e.hide p) H' w' e') :
    Mono w' e' w' (e'.unhide e p) ∧ RHeap G H' w' (e'.unhide e p) ∧ Ext H w e H' w' (e'.unhide e p) := by
  have m : Mono w' e' w' (e'.unhide e p) := ⟨Nat.le_refl _, fun _ _ => rfl, fun _ _ h => ⟨h, rfl⟩, fun _ _ _ h => .inl h⟩
  -- a hidden spare place: nobody has touched it
  have hid : ∀ c b o, p c = false → e.Sp c b o → (cel w' b o).isSome ∧ fro w' b o = false ∧ ¬ e'.RO b o ∧ (∀ id, live H' id → e'.ρ id ≠ b) ∧ ∀ c', ¬ e'.Sp c' b o := by
    intro c b o hp hs
    obtain ⟨h1, h2, h3, h4⟩ := hR.sp c b o hs
    have hlt := lt_of_cel h1
    have hne : ∀ c', ¬ (e.hide p).Sp c' b o := by
      rintro c' ⟨hp', hs'⟩
      have := hR.spd c c' b o hs hs'
      subst this
      rw [hp] at hp'
      cases hp'
    obtain ⟨e1, e2⟩ := hx.cell b o hlt (fun id hl => h4 id hl) hne
    refine ⟨by rw [e1]; exact h1, by rw [e2]; exact h2, fun hro => ?_, fun id hl he => ?_, fun c' hs' => ?_⟩
    · rcases hx.roNew b o hro with h | h | ⟨c', h⟩ | ⟨id, hl, he⟩
      · exact h3 h
      · omega
      · exact hne c' h
      · exact h4 id hl he
    · by_cases hid : id < H.length
      · rw [hx.ρ id hid] at he
        exact h4 id (hx.old id hid hl) he
      · have := hx.new id (by omega) hl
        omega
    · rcases hx.spNew c' b o hs' with h | ⟨c2, h⟩
      · omega
      · exact hne c2 h
  refine ⟨m, ⟨hR'.len, fun id b hb => (hR'.blk id b hb).mono m rfl, hR'.inj, hR'.ro, hR'.roOwn, ?_, ?_, fun g cs h => (hR'.glob g cs h).mono m⟩,
    ⟨hx.os, hx.tape, hx.output, hx.size, hx.len, hx.ρ, hx.new, hx.old, hx.ro, ?_, ?_, ?_, ?_⟩⟩
  · rintro c b o (h | ⟨hp, h⟩)
    · exact hR'.sp c b o h
    · obtain ⟨h1, h2, h3, h4, _⟩ := hid c b o hp h
      exact ⟨h1, h2, h3, h4⟩
  · rintro c1 c2 b o (h1 | ⟨hp1, h1⟩) (h2 | ⟨hp2, h2⟩)
    · exact hR'.spd c1 c2 b o h1 h2
    · exact absurd h1 ((hid c2 b o hp2 h2).2.2.2.2 c1)
    · exact absurd h2 ((hid c1 b o hp1 h1).2.2.2.2 c2)
    · exact hR.spd c1 c2 b o h1 h2
  · intro b o h
    rcases hx.roNew b o h with h | h | ⟨c', h⟩ | h
    · exact .inl h
    · exact .inr (.inl h)
    · exact .inr (.inr (.inl ⟨c', h.2⟩))
    · exact .inr (.inr (.inr h))
  · rintro c b o (h | ⟨_, h⟩)
    · rcases hx.spNew c b o h with h | ⟨c2, h⟩
      · exact .inl h
      · exact .inr ⟨c2, h.2⟩
    · exact .inr ⟨c, h⟩
  · exact fun b o hb ho hs => hx.cell b o hb ho fun c h => hs c h.2
  · exact fun b hb ho hs => hx.block b hb ho fun c o h => hs c o h.2

/-- The caller's temporaries behind a call. -/
theorem tmps_after {H H' : Heap} {w w' : World} {e e' : Env} (hR : RHeap G H w e) (hR' : RHeap G H' w' e') (hx : Ext H w (e.hide (heapCls H)) H' w' e') {vs : List V} {us : List Value} (h : Reps w e vs us) :
    Reps w' (e'.unhide e (heapCls H)) (vs.map (V.demote (heapCls H))) us := by
  refine ⟨by simpa using h.1, fun i v u hv hu => ?_⟩
  rw [List.getElem?_map] at hv
  obtain ⟨v', hv', rfl⟩ := Option.map_eq_some_iff.1 hv
  obtain ⟨h1, h2⟩ := h.2 i v' u hv' hu
  have hRh := hR.hide
  have r1 : Rep w' e' v' u := (h1.hide (heapCls H)).ext hRh hR' hx
  have r2 : Rep w' (e'.unhide e (heapCls H)) v' u := r1.mono (unhide_ok hR hR' hx).1
  refine ⟨rep_demote _ r2, ?_⟩
  refine (flagOk_demote (heapCls H) h2).mono fun es rows c hcl b o hs => ?_
  refine .inr ⟨?_, hs⟩
  cases v' with
  | dat es' rows' fl =>
    cases fl with
    | cls c2 =>
      simp only [V.demote] at hcl
      split at hcl
      · cases hcl
      · rename_i hne
        cases hcl
        simpa using hne
    | no => simp [V.demote] at hcl
    | tight => simp [V.demote] at hcl
  | _ => simp [V.demote] at hcl

/-- Behind a call (or a round) the caller's state. -/
theorem RSt.after {σ : St} {a : Act} {w w' : World} {e e' : Env} {H' : Heap} (h : RSt G σ a w e) (hR' : RHeap G H' w' e') (hx : Ext σ.H w (e.hide (heapCls σ.H)) H' w' e') :
    RSt G (σ.afterCall H') a w' (e'.unhide e (heapCls σ.H)) := by
  have hlen := h.heap.len
  refine ⟨(unhide_ok h.heap hR' hx).2.1, tmps_after h.heap hR' hx h.tmps, ?_, fun id hid => ?_, fun id hid => ?_⟩
  · show a.defers = σ.defs.map _
    rw [h.defs]
    refine List.map_congr_left fun id hid => ?_
    show ({ target := .collected (e.ρ id), args := #[] } : Deferred) = { target := .collected (e'.ρ id), args := #[] }
    rw [hx.ρ id (by rw [← hlen]; exact h.defsN id hid)]
    rfl
  · have := h.defsN id hid
    have := hx.len
    have := hR'.len
    show id < e'.N
    omega
  · have := h.cur id hid
    have := hx.len
    have := hR'.len
    show id < e'.N
    omega

/-- What an operation owes: its walk, for every continuation. -/
def OpWp (P : Program) (G : Nat → Option (List V)) (ro : Option Nat) (o : Oper) (σ : St) (a : Act) (w : World) (e : Env) (k : V → St → Prop) : Prop :=
  ∀ (next : Act → World → Prop) (Q : Exit → Act → World → Prop),
    (∀ u w' v σ' e', k v σ' → σ'.cur = σ.cur → RSt G σ' a w' e' → RepF w' e' v u → Ext σ.H w e σ'.H w' e' → next (a.put o.dst u) w') → o.wpIn (FW ro) 0 P a w next Q

theorem opWp_of_done {ro : Option Nat} {o : Oper} {σ : St} {a : Act} {w : World} {e : Env} {k : V → St → Prop} (hnd : ∀ c, o.op ≠ .defer c) (h : OpDone P G o σ a w e k) : OpWp P G ro o σ a w e k := by
  intro next Q hn
  obtain ⟨u, w', v, σ', e', hr, hk, hc, hst, hv, hx⟩ := h
  refine ⟨fun _ _ => trivial, ?_⟩
  rw [Oper.semAt_eq _ _ _ hnd]
  rcases hr with hr | ⟨hr, rfl⟩
  · rw [hr]
    exact hn u w' v σ' e' hk hc hst hv hx
  · rw [hr]
    exact hn undef w' v σ' e' hk hc hst hv hx

theorem op_call {ro : Option Nat} {o : Oper} {σ : St} {a : Act} {w : World} {e : Env} {k : V → St → Prop} (h : RSt G σ a w e) (f : Operand) (args : Array Operand) (ts : Array TypeId)
    (ho : o.op = .call { callee := .value f, args, argTypes := ts }) (hk : evOp P G o σ k) : OpWp P G ro o σ a w e k := by
  intro next Q hn
  simp only [evOp, ho] at hk
  have hf := h.ev f
  have hargs := args_eval h args
  refine ⟨fun _ _ => trivial, ?_⟩
  rw [Oper.semAt_eq _ _ _ (by rw [ho]; simp)]
  simp only [execOp, ho, resolve]
  generalize huf : a.eval f = uf at hf
  generalize σ.ev f = vf at hk hf
  split at hk
  · rename_i g first caps
    obtain ⟨⟨fn, hfn, hbody, hname⟩, hk⟩ := hk
    obtain ⟨h1, _⟩ := hf
    cases h1 with
    | fn _ _ _ first' caps' hl1 hl2 hr1 hr2 =>
      have hrun : (do let d ← Deferred.ofValue (Value.func (.func g) first' caps') (args.map a.eval); invoke d.target d.args : Sem Next).run P w = .ok (.enter g ((first' ++ args.map a.eval) ++ caps')) w := by
        simp only [Deferred.ofValue, Sem.run_bind, Sem.run_pure, Result.andThen, invoke, callFunc, program]
        simp only [Sem.run, hfn, hname, Bool.false_eq_true, if_false]
        rw [if_neg (by rw [Option.isNone_iff_eq_none]; exact Option.isSome_iff_ne_none.1 hbody)]
        rfl
      rw [hrun]
      refine ⟨fun h => by simp [FW, Fence.wide] at h, ?_⟩
      have hall : Reps w (e.hide (heapCls σ.H)) ((first ++ args.toList.map σ.ev ++ caps).map V.strip) ((first' ++ args.map a.eval) ++ caps').toList := by
        refine ⟨by simp [hl1, hl2], fun i v u hv hu => ?_⟩
        rw [List.getElem?_map] at hv
        obtain ⟨v', hv', rfl⟩ := Option.map_eq_some_iff.1 hv
        have hrep : Rep w e v' u := by
          simp only [Array.toList_append] at hu
          by_cases hi : i < first.length
          · rw [List.append_assoc, List.getElem?_append_left hi] at hv'
            rw [List.append_assoc, List.getElem?_append_left (by simpa [← hl1] using hi)] at hu
            exact hr1 i v' u hv' (by simpa using hu)
          · rw [List.append_assoc, List.getElem?_append_right (by omega)] at hv'
            rw [List.append_assoc, List.getElem?_append_right (by simp [← hl1]; omega)] at hu
            simp only [Array.length_toList, ← hl1] at hu
            have hlen : (args.toList.map σ.ev).length = (args.map a.eval).toList.length := by simp
            by_cases hj : i - first.length < (args.toList.map σ.ev).length
            · rw [List.getElem?_append_left hj] at hv'
              rw [List.getElem?_append_left (by rw [← hlen]; exact hj)] at hu
              exact (hargs.2 _ v' u hv' hu).1
            · rw [List.getElem?_append_right (by omega)] at hv'
              rw [List.getElem?_append_right (by rw [← hlen]; omega), ← hlen] at hu
              exact hr2 _ v' u hv' (by simpa using hu)
        exact (hrep.hide _).strip
      have hcall := hk w (e.hide (heapCls σ.H)) _ h.heap.hide hall
      refine CallsIn.mono (F := Fence.wide) hcall ?_
      rintro en w' ⟨v, r, H', e', rfl, hΨ, hR', hv, hx⟩
      exact hn v w' r (σ.afterCall H') (e'.unhide e (heapCls σ.H)) hΨ rfl (h.after hR' hx) (hv.mono (unhide_ok h.heap hR' hx).1) (unhide_ok h.heap hR' hx).2.2
  · rename_i id
    obtain ⟨h1, _⟩ := hf
    cases h1 with
    | yld _ hid =>
      have hall : Reps w (e.hide (heapCls σ.H)) ((args.toList.map σ.ev).map V.strip) (args.map a.eval).toList := by
        refine ⟨by simp, fun i v u hv hu => ?_⟩
        rw [List.getElem?_map] at hv
        obtain ⟨v', hv', rfl⟩ := Option.map_eq_some_iff.1 hv
        exact ((hargs.2 i v' u hv' hu).1.hide _).strip
      obtain ⟨r, w1, l, f, tmps, assign, body, hy, rfl, rfl, hround⟩ := hk w (e.hide (heapCls σ.H)) _ h.heap.hide hall
      have hy' : (Instr.yield (e.ρ id) (args.map a.eval)).run P w1 = .ok (.round l f tmps assign body) w1 := by
        rw [Array.toArray_toList] at hy
        exact hy
      have hrun : (do let d ← Deferred.ofValue (Value.func (.yield (e.ρ id)) #[] #[]) (args.map a.eval); invoke d.target d.args : Sem Next).run P w1 = .ok (.round l f tmps assign body) w1 := by
        simp only [Deferred.ofValue, Sem.run_bind, Sem.run_pure, Result.andThen, invoke]
        simpa using hy'
      rw [hrun]
      refine ⟨fun h => by simp [FW, Fence.wide] at h, ?_⟩
      refine RoundIn.mono (F := Fence.wide) hround ?_
      rintro en w' ⟨v, r, H', e', rfl, hΨ, hR', hv, hx⟩
      exact hn v w' r (σ.afterCall H') (e'.unhide e (heapCls σ.H)) hΨ rfl (h.after hR' hx) (hv.mono (unhide_ok h.heap hR' hx).1) (unhide_ok h.heap hR' hx).2.2
  · exact hk.elim

end Go.Abs
