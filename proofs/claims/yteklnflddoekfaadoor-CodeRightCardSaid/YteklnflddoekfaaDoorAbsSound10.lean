/- Weakening; functions; rounds; ranges over functions; calls that know nothing of the caller's blocks. -/
import Derived.Test.YteklnflddoekfaaDoorAbsSound9
namespace Go.Abs
open Go.RowKit

variable {P : Program} {G : Nat → Option (List V)}

/-! ### weakening -/
def Env.cutTo (e : Env) (n : Nat) : Env := { e with N := n }

theorem VW.rep {w : World} {e : Env} {n : Nat} (_hn : n ≤ e.N) {v v' : V} (h : VW n v v') : ∀ {u : Value}, Rep w e v u → Rep w (e.cutTo n) v' u := by
  induction h with
  | bad v => intro u _; exact .bad _
  | im v => intro u h; cases h; exact .im _
  | str l => intro u h; cases h; exact .str _
  | ptr id off hid => intro u h; cases h; exact Rep.ptr (e := e.cutTo n) id off hid
  | mp id hid => intro u h; cases h; exact Rep.mp (e := e.cutTo n) id hid
  | yld id hid => intro u h; cases h; exact Rep.yld (e := e.cutTo n) id hid
  | arr id es len hid => intro u h; cases h with
    | arr _ _ _ cap _ hc => exact Rep.arr (e := e.cutTo n) id es len cap hid hc
  | nil es es' fl fl' hfl =>
    intro u h
    cases h with
    | nil => exact .nil _ _
    | dat _ _ _ b o cap uu hes hcap ht h1 h2 =>
      refine .dat es' [] fl' b o cap uu (by simp) hcap ?_ (fun i j v h => by simp [at2] at h) (fun i j v h => by simp [at2] at h)
      intro hf
      rcases hfl with h | h | h
      · exact ht h
      · rw [h] at hf; cases hf
      · exact ht (h.trans hf)
  | dat es rows fl =>
    intro u h
    cases h with
    | nil => exact .nil _ _
    | dat _ _ _ b o cap uu hes hcap ht h1 h2 => exact .dat es rows fl b o cap uu hes hcap ht h1 h2
  | no es rows fl =>
    intro u h
    cases h with
    | nil => exact .nil _ _
    | dat _ _ _ b o cap uu hes hcap ht h1 h2 => exact .dat es rows .no b o cap uu hes hcap (by simp) h1 h2
  | cls es rows c =>
    intro u h
    cases h with
    | nil => exact .nil _ _
    | dat _ _ _ b o cap uu hes hcap ht h1 h2 => exact .dat es rows (.cls c) b o cap uu hes hcap (by simp) h1 h2
  | rp cs =>
    intro u h
    cases h with
    | rp _ b o uu h1 h2 => exact .rp cs b o uu h1 h2
  | fn f a b ha hb iha ihb =>
    intro u h
    cases h with
    | fn _ _ _ f' c' hl1 hl2 h1 h2 => exact .fn f a b f' c' hl1 hl2 (fun i v u hv hu => iha i v hv (h1 i v u hv hu)) (fun i v u hv hu => ihb i v hv (h2 i v u hv hu))
  | agg cs cs' hl hh ih =>
    intro u h
    cases h with
    | agg _ us hl' h1 =>
      refine .agg cs' us (by omega) fun i v u hv hu => ?_
      have hi : i < cs.length := by have := (List.getElem?_eq_some_iff.1 hv).1; omega
      exact ih i cs[i] v (List.getElem?_eq_getElem hi) hv (h1 i cs[i] u (List.getElem?_eq_getElem hi) hu)
  | tup cs cs' hl hh ih =>
    intro u h
    cases h with
    | tup _ us hl' h1 =>
      refine .tup cs' us (by omega) fun i v u hv hu => ?_
      have hi : i < cs.length := by have := (List.getElem?_eq_some_iff.1 hv).1; omega
      exact ih i cs[i] v (List.getElem?_eq_getElem hi) hv (h1 i cs[i] u (List.getElem?_eq_getElem hi) hu)

theorem VW.flag {e : Env} {n : Nat} {v v' : V} (h : VW n v v') {w : World} {u : Value} (hr : Rep w e v u) (hf : FlagOk e v u) : FlagOk (e.cutTo n) v' u := by
  cases h with
  | cls es rows c =>
    cases hr with
    | nil => trivial
    | dat _ _ _ b o cap uu hes hcap ht h1 h2 =>
      have := ht rfl
      refine ⟨fun h0 => by rw [this, h0]; rfl, fun k h3 h4 => ?_⟩
      rw [this] at h4
      omega
  | nil es es' fl fl' hfl =>
    cases fl' with
    | no => cases hr <;> trivial
    | tight => cases hr <;> trivial
    | cls c =>
      cases hr with
      | nil => trivial
      | dat _ _ _ b o cap uu hes hcap ht h1 h2 =>
        have hc : cap = 0 := by
          rcases hfl with h | h | h
          · exact ht h
          · cases h
          · rw [h] at hf; exact hf.1 rfl
        exact ⟨fun _ => hc, fun k h3 h4 => by rw [hc] at h4; omega⟩
  | dat es rows fl => exact hf
  | no es rows fl => cases hr <;> trivial
  | _ => trivial

theorem VW.repF {w : World} {e : Env} {n : Nat} (hn : n ≤ e.N) {v v' : V} (h : VW n v v') {u : Value} (hr : RepF w e v u) : RepF w (e.cutTo n) v' u :=
  ⟨h.rep hn hr.1, h.flag hr.1 hr.2⟩

/-- Lists of values, place by place. -/
inductive VWs (n : Nat) : List V → List V → Prop
  | nil : VWs n [] []
  | cons {x y : V} {xs ys : List V} (h : VW n x y) (hs : VWs n xs ys) : VWs n (x :: xs) (y :: ys)

theorem VWs.get {n : Nat} {xs ys : List V} (h : VWs n xs ys) : xs.length = ys.length ∧ ∀ (i : Nat) (x y : V), xs[i]? = some x → ys[i]? = some y → VW n x y := by
  induction h with
  | nil => exact ⟨rfl, fun i x y h => by simp at h⟩
  | cons h hs ih =>
    refine ⟨by simp [ih.1], fun i x y hx hy => ?_⟩
    cases i with
    | zero => simp at hx hy; subst hx; subst hy; exact h
    | succ i => exact ih.2 i x y (by simpa using hx) (by simpa using hy)

/-- A block that says less, or that is forgotten. -/
inductive BW (n : Nat) : Option Blk → Option Blk → Prop
  | drop (b : Option Blk) : BW n b none
  | cells (t : TypeId) (vs vs' : List V) (h : VWs n vs vs') : BW n (some (.cells t vs)) (some (.cells t vs'))
  | map (es es' : List (V × V)) (c : Nat) (h1 : VWs n (es.map (·.1)) (es'.map (·.1))) (h2 : VWs n (es.map (·.2)) (es'.map (·.2))) : BW n (some (.map es c)) (some (.map es' c))
  | defd : BW n (some .defd) (some .defd)
  | iter (m since stepped : Nat) (seen : List Nat) (hd : m < n) : BW n (some (.iter m since stepped seen)) (some (.iter m since stepped seen))
  | loop (st : LoopState) (pend : Option Code) (tmps tmps' : List V) (ps : Array Tmp) (a b : Code) (d : Nat) (h : VWs n tmps tmps') (hd : d < n) :
      BW n (some (.loop st pend tmps ps a b d)) (some (.loop st pend tmps' ps a b d))

inductive BWs (n : Nat) : Heap → Heap → Prop
  | nil (H : Heap) : BWs n H []
  | cons {x y : Option Blk} {xs ys : Heap} (h : BW n x y) (hs : BWs n xs ys) : BWs n (x :: xs) (y :: ys)

theorem BWs.get {n : Nat} {H H' : Heap} (h : BWs n H H') : H'.length ≤ H.length ∧ ∀ (i : Nat) (y : Option Blk), H'[i]? = some y → ∃ x, H[i]? = some x ∧ BW n x y := by
  induction h with
  | nil H => exact ⟨by simp, fun i y h => by simp at h⟩
  | cons h hs ih =>
    refine ⟨by simp [ih.1], fun i y hy => ?_⟩
    cases i with
    | zero => simp at hy; subst hy; exact ⟨_, rfl, h⟩
    | succ i => obtain ⟨x, hx, hb⟩ := ih.2 i y (by simpa using hy); exact ⟨x, by simpa using hx, hb⟩

theorem map_get {es : List (V × V)} {i : Nat} {x : V × V} (h : es[i]? = some x) : (es.map (·.1))[i]? = some x.1 ∧ (es.map (·.2))[i]? = some x.2 := by
  simp [h]

theorem BW.repBlk {w : World} {e : Env} {n r : Nat} (hn : n ≤ e.N) {b b' : Blk} (h : BW n (some b) (some b')) (hr : RepBlk w e r b) : RepBlk w (e.cutTo n) r b' := by
  cases h with
  | cells t vs vs' hv =>
    cases hr with
    | cells _ _ cs hb hl hh =>
      obtain ⟨h1, h2⟩ := hv.get
      refine .cells t vs' cs hb (by omega) fun i v u hv' hu => ?_
      have hi : i < vs.length := by have := (List.getElem?_eq_some_iff.1 hv').1; omega
      exact (h2 i vs[i] v (List.getElem?_eq_getElem hi) hv').repF hn (hh i vs[i] u (List.getElem?_eq_getElem hi) hu)
  | map es es' c h1 h2 =>
    cases hr with
    | map _ ms _ hb hl hk hh =>
      obtain ⟨g1, g2⟩ := h1.get
      obtain ⟨_, g4⟩ := h2.get
      simp only [List.length_map] at g1
      refine .map es' ms c hb (by omega) hk fun i x m hx hm => ?_
      have hi : i < es.length := by have := (List.getElem?_eq_some_iff.1 hx).1; omega
      obtain ⟨a1, a2⟩ := map_get hx
      obtain ⟨b1, b2⟩ := map_get (List.getElem?_eq_getElem hi)
      have := hh i es[i] m (List.getElem?_eq_getElem hi) hm
      exact ⟨(g2 i _ _ b1 a1).rep hn this.1, (g4 i _ _ b2 a2).rep hn this.2⟩
  | defd =>
    cases hr with
    | defd hb => exact .defd hb
  | iter k since stepped seen hd =>
    cases hr with
    | iter _ _ _ _ hb hd' => exact .iter k since stepped seen hb hd
  | loop st pend tmps tmps' ps a b d hv hd =>
    cases hr with
    | loop _ _ fn _ _ _ _ _ us hb hd' hl hh =>
      obtain ⟨h1, h2⟩ := hv.get
      refine .loop st pend fn tmps' ps a b d us hb hd (by omega) fun i v u hv' hu => ?_
      have hi : i < tmps.length := by have := (List.getElem?_eq_some_iff.1 hv').1; omega
      exact (h2 i tmps[i] v (List.getElem?_eq_getElem hi) hv').rep hn (hh i tmps[i] u (List.getElem?_eq_getElem hi) hu)

theorem RHeap.cutTo {H H' : Heap} {w : World} {e : Env} (hR : RHeap G H w e) (hb : BWs H'.length H H') : RHeap G H' w (e.cutTo H'.length) ∧ ∀ id, live H' id → live H id := by
  obtain ⟨hle, hget⟩ := hb.get
  have hlive : ∀ id, live H' id → live H id := by
    rintro id ⟨b', hb'⟩
    obtain ⟨x, hx, hbw⟩ := hget id _ hb'
    cases x with
    | none => cases hbw
    | some b => exact ⟨b, hx⟩
  have hn : H'.length ≤ e.N := by rw [hR.len]; exact hle
  refine ⟨⟨rfl, fun id b hb' => ?_, fun i j hi hj => hR.inj i j (hlive i hi) (hlive j hj), hR.ro, fun id o hl => hR.roOwn id o (hlive id hl), fun c b o h => ?_, hR.spd, fun g cs h => ?_⟩, hlive⟩
  · obtain ⟨x, hx, hbw⟩ := hget id _ hb'
    cases x with
    | none => cases hbw
    | some b0 => exact hbw.repBlk hn (hR.blk id b0 hx)
  · obtain ⟨h1, h2, h3, h4⟩ := hR.sp c b o h
    exact ⟨h1, h2, h3, fun id hl => h4 id (hlive id hl)⟩
  · exact (VW.rp cs).rep hn (hR.glob g cs h)

/-- A state that says less, shown place by place. -/
theorem Weak.mk' {σ : St} (vs' : List V) (H' : Heap) (ht : VWs H'.length σ.tmps vs') (hb : BWs H'.length σ.H H') (hd : ∀ id ∈ σ.defs, id < H'.length) (hc : ∀ id, σ.cur = some id → id < H'.length) :
    Weak G σ { σ with tmps := vs', H := H' } := by
  refine ⟨rfl, fun a w e h => ⟨e.cutTo H'.length, ?_, fun H0 w0 e0 hl hx => ?_⟩⟩
  · obtain ⟨hR, _⟩ := h.heap.cutTo hb
    have hn : H'.length ≤ e.N := by rw [h.heap.len]; exact hb.get.1
    obtain ⟨h1, h2⟩ := ht.get
    refine ⟨hR, ⟨by rw [← h1]; exact h.tmps.1, fun i v u hv hu => ?_⟩, h.defs, hd, hc⟩
    have hi : i < σ.tmps.length := by
      have : i < vs'.length := (List.getElem?_eq_some_iff.1 hv).1
      omega
    exact (h2 i σ.tmps[i] v (List.getElem?_eq_getElem hi) hv).repF hn (h.tmps.2 i σ.tmps[i] u (List.getElem?_eq_getElem hi) hu)
  · obtain ⟨_, hlive⟩ := h.heap.cutTo hb
    exact ⟨hx.os, hx.tape, hx.output, hx.size, hl, hx.ρ, fun id h1 h2 => hx.new id h1 (hlive id h2), fun id h1 h2 => hx.old id h1 (hlive id h2), hx.ro, hx.roNew, hx.spNew, hx.cell, hx.block⟩

/-! ### functions -/
def readV (P : Program) (σ : St) (k : V → Prop) : ResultVar → Prop
  | .tmp t => k (σ.tmps.getD t .bad)
  | .cell a t => evLoad P t σ k (σ.tmps.getD a .bad)

def readVs (P : Program) (σ : St) : List ResultVar → List V → (List V → Prop) → Prop
  | [], acc, k => k acc
  | r :: rs, acc, k => readV P σ (fun v => readVs P σ rs (acc ++ [v]) k) r

/-- What a function's end owes. -/
def retΦ (P : Program) (fn : Func) (Ψ : V → Heap → Prop) : Exit → St → Prop
  | .normal, σ | .ret, σ => (∀ id ∈ σ.defs, σ.H[id]? = some (some .defd)) ∧ σ.defs.Nodup ∧
      readVs P { σ with H := σ.defs.foldl (fun H id => H.set id none) σ.H, defs := [] } fn.results.toList [] fun vs => match vs with
        | [v] => Ψ v.strip (σ.defs.foldl (fun H id => H.set id none) σ.H)
        | vs => Ψ (.tup vs) (σ.defs.foldl (fun H id => H.set id none) σ.H)
  | _, _ => False

theorem run_resultV {σ : St} {a : Act} {w : World} {e : Env} (h : RSt G σ a w e) {r : ResultVar} {k : V → Prop} (hk : readV P σ k r) :
    ∃ u v, (match r with | .tmp t => pure (a.tmps.getD t undef) | .cell x t => do loadVar t (← asAddr (a.tmps.getD x undef)) : Sem Value).run P w = .ok u w ∧ k v ∧ RepF w e v u := by
  cases r with
  | tmp t => exact ⟨_, _, rfl, hk, h.ev (.tmp t)⟩
  | cell x t =>
    simp only [readV] at hk
    show ∃ u v, (do loadVar t (← asAddr (a.tmps.getD x undef)) : Sem Value).run P w = .ok u w ∧ k v ∧ RepF w e v u
    have hx : RepF w e (σ.tmps.getD x .bad) (a.tmps.getD x undef) := h.ev (.tmp x)
    generalize σ.tmps.getD x .bad = vx at hk hx
    generalize a.tmps.getD x undef = ux at hx ⊢
    obtain ⟨hx1, _⟩ := hx
    cases vx with
    | ptr id off =>
      simp only [evLoad] at hk
      split at hk
      · rename_i t' vs hH
        obtain ⟨rfl, hid⟩ := ptr_inv hx1
        obtain ⟨cs, hb, hl, hc, hr⟩ := blk_cel (h.heap.blk id _ hH)
        obtain ⟨u, v, hrun, hk, hv, hf⟩ := load_cells (F := FlagOk e) (us := fun j => cs.getD (off + j) undef) t (fun j v hj => by
          rw [List.getElem?_drop] at hj
          exact hc _ (Nat.lt_of_lt_of_le (List.getElem?_eq_some_iff.1 hj).1 hl)) (fun j v hj => by
          rw [List.getElem?_drop] at hj
          exact (hr _ v hj).1) (fun j v hj => by
          rw [List.getElem?_drop] at hj
          exact (hr _ v hj).2) hk
        refine ⟨u, v, ?_, hk, hv, hf (by simp [FlagOk])⟩
        simp only [asAddr, Sem.run_bind, Sem.run_pure, Result.andThen]
        exact hrun
      · exact hk.elim
    | rp cs =>
      simp only [evLoad] at hk
      cases hx1 with
      | rp _ b off us h1 h2 =>
        obtain ⟨u, v, hrun, hk, hv, _⟩ := load_cells (F := fun _ _ => True) t (fun j v hj => (h1 j v hj).1) (fun j v hj => (h2 j v hj).held) (fun _ _ _ => trivial) hk
        refine ⟨u, _, ?_, hk, hv.strip⟩
        simp only [asAddr, Sem.run_bind, Sem.run_pure, Result.andThen]
        exact hrun
    | _ => exact hk.elim

theorem run_resultVs {σ : St} {a : Act} {w : World} {e : Env} (h : RSt G σ a w e) (rs : List ResultVar) : ∀ (acc : List V) (us : List Value) (k : List V → Prop), Reps w e acc us → readVs P σ rs acc k →
    ∃ us' vs, (rs.mapM fun | .tmp t => pure (a.tmps.getD t undef) | .cell x t => do loadVar t (← asAddr (a.tmps.getD x undef)) : Sem (List Value)).run P w = .ok us' w ∧ k vs ∧ Reps w e vs (us ++ us') := by
  induction rs with
  | nil => intro acc us k hr hk; exact ⟨[], acc, rfl, hk, by simpa using hr⟩
  | cons r rs ih =>
    intro acc us k hr hk
    simp only [readVs] at hk
    obtain ⟨u, v, hrun, hk, hv⟩ := run_resultV h hk
    obtain ⟨us', vs, hrun', hk', hr'⟩ := ih (acc ++ [v]) (us ++ [u]) k ⟨by simp [hr.1], fun i x y hx hy => by
      by_cases hi : i < acc.length
      · rw [List.getElem?_append_left hi] at hx
        rw [List.getElem?_append_left (by rw [← hr.1]; exact hi)] at hy
        exact hr.2 i x y hx hy
      · rw [List.getElem?_append_right (by omega)] at hx
        rw [List.getElem?_append_right (by rw [← hr.1]; omega), ← hr.1] at hy
        obtain ⟨j, hj⟩ : ∃ j, i - acc.length = j := ⟨_, rfl⟩
        rw [hj] at hx hy
        cases j with
        | zero => simp at hx hy; subst hx; subst hy; exact hv
        | succ j => simp at hx⟩ hk
    refine ⟨u :: us', vs, ?_, hk', by simpa using hr'⟩
    rw [List.mapM_cons, Sem.run_bind, hrun]
    simp only [Result.andThen]
    rw [Sem.run_bind, hrun']
    rfl

theorem RSt.kill {σ : St} {a : Act} {w : World} {e : Env} (h : RSt G σ a w e) {id : Nat} (hid : σ.H[id]? = some (some .defd)) :
    RSt G { σ with H := σ.H.set id none } a (w.putObj (e.ρ id) (.deferred none)) e ∧ Ext σ.H w e (σ.H.set id none) (w.putObj (e.ρ id) (.deferred none)) e := by
  have hR := h.heap
  have hlt : id < σ.H.length := (List.getElem?_eq_some_iff.1 hid).1
  have hlive : live σ.H id := ⟨_, hid⟩
  have hr : e.ρ id < w.heap.size := hR.liveLt hlive
  have hblk : w.heap[e.ρ id]? = some (.deferred (some [])) := by
    have := hR.blk id _ hid
    cases this with
    | defd hb => exact hb
  have hother : ∀ r, r ≠ e.ρ id → (w.putObj (e.ρ id) (.deferred none)).heap[r]? = w.heap[r]? := fun r hr => World.putObj_heap_other hr
  have hcel : ∀ b o, cel (w.putObj (e.ρ id) (.deferred none)) b o = cel w b o ∧ fro (w.putObj (e.ρ id) (.deferred none)) b o = fro w b o := by
    intro b o
    unfold cel fro World.cell? World.frozen?
    by_cases hb : b = e.ρ id
    · subst hb
      rw [World.putObj_heap_same hr, hblk]
      exact ⟨rfl, rfl⟩
    · rw [hother b hb]
      exact ⟨rfl, rfl⟩
  have hl : ∀ j, live (σ.H.set id none) j → live σ.H j ∧ j ≠ id := by
    rintro j ⟨b, hb⟩
    by_cases hj : id = j
    · subst hj
      rw [List.getElem?_set_self hlt] at hb
      cases hb
    · rw [List.getElem?_set_ne hj] at hb
      exact ⟨⟨b, hb⟩, fun h => hj h.symm⟩
  have m : Mono w e (w.putObj (e.ρ id) (.deferred none)) e := ⟨Nat.le_refl _, fun _ _ => rfl, fun b o h => ⟨h, (hcel b o).1⟩, fun _ _ _ h => h⟩
  refine ⟨⟨⟨by simp [hR.len], fun j b hb => ?_, fun i j hi hj => hR.inj i j (hl i hi).1 (hl j hj).1, fun b o h => ?_, fun j o hj => hR.roOwn j o (hl j hj).1, fun c b o h => ?_, hR.spd, fun g cs hg => (hR.glob g cs hg).mono m⟩, h.tmps.mono m, h.defs, h.defsN, h.cur⟩,
    ⟨rfl, rfl, rfl, by simp, by simp, fun _ _ => rfl, fun j h1 h2 => ?_, fun j _ hj => (hl j hj).1, fun _ _ h => h, fun _ _ h => .inl h, fun c _ _ h => .inr ⟨c, h⟩, fun b o _ _ _ => hcel b o, fun b _ ho _ => hother b fun he => ho id hlive he.symm⟩⟩
  · obtain ⟨hj1, hj2⟩ := hl j ⟨b, hb⟩
    rw [List.getElem?_set_ne (fun h => hj2 h.symm)] at hb
    exact (hR.blk j b hb).mono m (hother _ fun he => hj2 (hR.inj j id hj1 hlive he))
  · rw [(hcel b o).1]; exact hR.ro b o h
  · obtain ⟨h1, h2, h3, h4⟩ := hR.sp c b o h
    exact ⟨by rw [(hcel b o).1]; exact h1, by rw [(hcel b o).2]; exact h2, h3, fun j hj => h4 j (hl j hj).1⟩
  · have := live_lt (hl j h2).1
    omega

theorem leaves {fn : Func} {a : Act} {R : Ending → World → Prop} (ds : List Nat) : ∀ (σ : St) (w : World) (e : Env), RSt G { σ with defs := [] } { a with defers := [] } w e → (∀ id ∈ ds, σ.H[id]? = some (some .defd)) → ds.Nodup →
    (∀ w' , RSt G { σ with H := ds.foldl (fun H id => H.set id none) σ.H, defs := [] } { a with defers := [] } w' e → Ext σ.H w e (ds.foldl (fun H id => H.set id none) σ.H) w' e →
      ∃ u, (results fn a.tmps).run P w' = .ok u w' ∧ R (.returned u) w') →
    LeavesInM Fence.wide 0 P fn a.tmps R (ds.map fun id => { target := .collected (e.ρ id), args := #[] }) .returning w := by
  induction ds with
  | nil =>
    intro σ w e h _ _ hR
    obtain ⟨u, hr, hu⟩ := hR w h (.refl _ _ _)
    exact ⟨u, hr, hu⟩
  | cons d ds ih =>
    intro σ w e h hd hnd hR
    refine ⟨by simp, .inl ⟨e.ρ d, w.putObj (e.ρ d) (.deferred none), rfl, ?_, ?_⟩⟩
    · have := h.heap.blk d _ (hd d (by simp))
      cases this with
      | defd hb => exact run_takeDeferred hb
    · obtain ⟨hk, hx⟩ := RSt.kill (σ := { σ with defs := [] }) h (hd d (by simp))
      refine ih { σ with H := σ.H.set d none } _ e hk (fun id hid => ?_) (List.nodup_cons.1 hnd).2 fun w' h' hx' => hR w' h' (hx.trans hx')
      have hne : d ≠ id := fun he => (List.nodup_cons.1 hnd).1 (he ▸ hid)
      show (σ.H.set d none)[id]? = _
      rw [List.getElem?_set_ne hne]
      exact hd id (by simp [hid])

theorem foldl_none_length (ds : List Nat) : ∀ H : Heap, (ds.foldl (fun H id => H.set id none) H).length = H.length := by
  induction ds with
  | nil => intro H; rfl
  | cons d ds ih => intro H; simp [ih]

theorem retΦ_leaves {fn : Func} {Ψ : V → Heap → Prop} {σ : St} {a : Act} {w : World} {e : Env} (h : RSt G σ a w e)
    (hk : (∀ id ∈ σ.defs, σ.H[id]? = some (some .defd)) ∧ σ.defs.Nodup ∧
      readVs P { σ with H := σ.defs.foldl (fun H id => H.set id none) σ.H, defs := [] } fn.results.toList [] fun vs => match vs with
        | [v] => Ψ v.strip (σ.defs.foldl (fun H id => H.set id none) σ.H)
        | vs => Ψ (.tup vs) (σ.defs.foldl (fun H id => H.set id none) σ.H)) {H0 : Heap} {w0 : World} {e0 : Env} (hx0 : Ext H0 w0 e0 σ.H w e) :
    LeavesInM Fence.wide 0 P fn a.tmps (fun en w' => ∃ v r H' e', en = .returned v ∧ Ψ r H' ∧ RHeap G H' w' e' ∧ RepF w' e' r v ∧ Ext H0 w0 e0 H' w' e') a.defers .returning w := by
  obtain ⟨h1, h2, h3⟩ := hk
  rw [h.defs]
  have h' : RSt G { σ with defs := [] } { a with defers := [] } w e := ⟨h.heap, h.tmps, rfl, fun id hid => by simp at hid, h.cur⟩
  refine leaves σ.defs σ w e h' h1 h2 fun w' hst hx => ?_
  obtain ⟨us', vs, hrun, hk, hr⟩ := run_resultVs (P := P) hst fn.results.toList [] [] _ ⟨rfl, fun i v u hv => by simp at hv⟩ h3
  simp only [List.nil_append] at hr
  have hres : (results fn a.tmps).run P w' = .ok (if h : us'.length = 1 then us'[0] else .tuple us'.toArray) w' := by
    unfold results
    rw [Sem.run_bind, Array.mapM_eq_mapM_toList, map_eq_pure_bind, Sem.run_bind]
    erw [hrun]
    simp [Result.andThen, Sem.run_pure]
  have hvl := hr.1
  match vs, hk, hr, hvl with
  | [v], hk, hr, hvl =>
    have h1 : us'.length = 1 := by simpa using hvl.symm
    rw [dif_pos h1] at hres
    exact ⟨_, hres, _, v.strip, _, e, rfl, hk, hst.heap, (hr.2 0 v _ rfl (by rw [List.getElem?_eq_getElem (by omega)])).1.strip, hx0.trans hx⟩
  | [], hk, hr, hvl =>
    have h1 : us'.length ≠ 1 := by simp at hvl; omega
    rw [dif_neg h1] at hres
    exact ⟨_, hres, _, .tup [], _, e, rfl, hk, hst.heap, ⟨.tup _ _ (by simpa using hvl) (fun i v u hv hu => by simp at hv), trivial⟩, hx0.trans hx⟩
  | v1 :: v2 :: vs, hk, hr, hvl =>
    have h1 : us'.length ≠ 1 := by simp at hvl; omega
    rw [dif_neg h1] at hres
    exact ⟨_, hres, _, .tup (v1 :: v2 :: vs), _, e, rfl, hk, hst.heap, ⟨.tup _ _ (by simpa using hvl) (fun i v u hv hu => (hr.2 i v u hv (by simpa using hu)).1), trivial⟩, hx0.trans hx⟩

/-- The state in which a function begins. -/
def begin_ (fn : Func) (args : List V) (H : Heap) : St := { tmps := args ++ List.replicate (fn.ntmps - args.length) (.tup []), H := H }

theorem reps_begin {w : World} {e : Env} {args : List V} {us : List Value} (h : Reps w e args us) (n : Nat) : Reps w e (args ++ List.replicate (n - args.length) (.tup [])) (us ++ List.replicate (n - us.length) undef) := by
  refine ⟨by simp [h.1], fun i v u hv hu => ?_⟩
  by_cases hi : i < args.length
  · rw [List.getElem?_append_left hi] at hv
    rw [List.getElem?_append_left (by rw [← h.1]; exact hi)] at hu
    exact h.2 i v u hv hu
  · rw [List.getElem?_append_right (by omega)] at hv
    rw [List.getElem?_append_right (by rw [← h.1]; omega)] at hu
    have hv' := List.eq_of_mem_replicate (List.mem_of_getElem? hv)
    have hu' := List.eq_of_mem_replicate (List.mem_of_getElem? hu)
    subst hv'; subst hu'
    exact ⟨.tup [] #[] rfl (fun i v u h => by simp at h), trivial⟩

/-- A function's contract, out of its body. -/
theorem stCall {f : FuncId} {fn : Func} {c : Code} {args : List V} {H : Heap} {Ψ : V → Heap → Prop} (hf : P.funcs[f]? = some fn) (hb : fn.body = some c)
    (hk : evCode P G c (retΦ P fn Ψ) (begin_ fn args H)) : StCall P G f args H Ψ := by
  intro w e us hR hargs
  refine callsIn_of_wp_marks hf hb trivial ?_ rfl
  have hst : RSt G (begin_ fn args H) { tmps := us.toArray ++ Array.replicate (fn.ntmps - us.toArray.size) undef, defers := [] } w e := by
    refine ⟨hR, ?_, rfl, fun id hid => by simp [begin_] at hid, fun id hid => by simp [begin_] at hid⟩
    have := reps_begin hargs fn.ntmps
    simpa [begin_] using this
  refine wpIn_mono (evCode_sound c _ _ hk _ w e hst) ?_
  rintro x a' w' ⟨σ', e', hΦ, hc, hst', hx⟩
  cases x with
  | normal => exact retΦ_leaves hst' hΦ hx
  | ret => exact retΦ_leaves hst' hΦ hx
  | _ => exact hΦ.elim

/-- What a contract says less of. -/
theorem StCall.mono {f : FuncId} {args : List V} {H : Heap} {Ψ Ψ' : V → Heap → Prop} (h : StCall P G f args H Ψ) (hm : ∀ r H', Ψ r H' → Ψ' r H') : StCall P G f args H Ψ' := by
  intro w e us hR hargs
  refine CallsIn.mono (h w e us hR hargs) ?_
  rintro en w' ⟨v, r, H', e', h1, h2, h3⟩
  exact ⟨v, r, H', e', h1, hm _ _ h2, h3⟩

/-- A value in which no block of the activation's own is named. -/
inductive V.Free : V → Prop
  | im (v : Value) : V.Free (.im v)
  | str (l : List UInt8) : V.Free (.str l)
  | dat (es : Nat) (rows : List (List V)) (fl : Fl) (h : ∀ c, fl ≠ .cls c) : V.Free (.dat es rows fl)
  | rp (cs : List V) : V.Free (.rp cs)
  | agg (cs : List V) (h : ∀ v ∈ cs, V.Free v) : V.Free (.agg cs)
  | tup (cs : List V) (h : ∀ v ∈ cs, V.Free v) : V.Free (.tup cs)
  | fn (f : Fn) (a b : List V) (ha : ∀ v ∈ a, V.Free v) (hb : ∀ v ∈ b, V.Free v) : V.Free (.fn f a b)
  | bad : V.Free .bad

theorem Rep.free {w : World} {e : Env} {v : V} (hv : v.Free) : ∀ {u : Value} (e' : Env), (∀ b o, e.RO b o → e'.RO b o) → Rep w e v u → Rep w e' v u := by
  induction hv with
  | im v => intro u e' _ h; cases h; exact .im _
  | str l => intro u e' _ h; cases h; exact .str _
  | bad => intro u e' _ _; exact .bad _
  | dat es rows fl _ =>
    intro u e' hro h
    cases h with
    | nil => exact .nil _ _
    | dat _ _ _ b o cap uu hes hcap ht h1 h2 =>
      exact .dat es rows fl b o cap uu hes hcap ht (fun i j v hv => ⟨(h1 i j v hv).1, hro _ _ (h1 i j v hv).2⟩)
        (fun i j v hv => (h2 i j v hv).mono' (e := e.pure) (e' := e'.pure) (Nat.le_refl 0) (fun _ h => absurd h (Nat.not_lt_zero _)) fun b o h => ⟨hro b o h, rfl⟩)
  | rp cs =>
    intro u e' hro h
    cases h with
    | rp _ b o uu h1 h2 =>
      exact .rp cs b o uu (fun j v hv => ⟨(h1 j v hv).1, hro _ _ (h1 j v hv).2⟩)
        (fun j v hv => (h2 j v hv).mono' (e := e.pure) (e' := e'.pure) (Nat.le_refl 0) (fun _ h => absurd h (Nat.not_lt_zero _)) fun b o h => ⟨hro b o h, rfl⟩)
  | agg cs hc ih =>
    intro u e' hro h
    cases h with
    | agg _ us hl h1 => exact .agg cs us hl fun i v u hv hu => ih v (List.mem_of_getElem? hv) e' hro (h1 i v u hv hu)
  | tup cs hc ih =>
    intro u e' hro h
    cases h with
    | tup _ us hl h1 => exact .tup cs us hl fun i v u hv hu => ih v (List.mem_of_getElem? hv) e' hro (h1 i v u hv hu)
  | fn f a b ha hb iha ihb =>
    intro u e' hro h
    cases h with
    | fn _ _ _ f' c' hl1 hl2 h1 h2 =>
      exact .fn f a b f' c' hl1 hl2 (fun i v u hv hu => iha v (List.mem_of_getElem? hv) e' hro (h1 i v u hv hu)) (fun i v u hv hu => ihb v (List.mem_of_getElem? hv) e' hro (h2 i v u hv hu))

theorem V.Free.flagOk {v : V} (h : v.Free) (e : Env) (u : Value) : FlagOk e v u := by
  cases h with
  | dat es rows fl h =>
    cases fl with
    | cls c => exact absurd rfl (h c)
    | no => trivial
    | tight => trivial
  | _ => trivial

/-- A function that is handed no block of the caller's is proved over the empty heap, and serves over every one. -/
theorem StCall.free {f : FuncId} {args : List V} {Ψ : V → Prop} (ha : ∀ v ∈ args, v.Free) (h : StCall P G f args [] fun r _ => r.Free ∧ Ψ r) (H : Heap) :
    StCall P G f args H fun r H' => H' = H ∧ Ψ r := by
  intro w e us hR hargs
  let e0 : Env := { N := 0, ρ := e.ρ, RO := e.RO, Sp := fun _ _ _ => False }
  have hR0 : RHeap G [] w e0 := ⟨rfl, fun id b hb => by simp at hb, fun i j ⟨b, hb⟩ => by simp at hb, hR.ro, fun id o ⟨b, hb⟩ => by simp at hb, fun c b o h => h.elim, fun _ _ _ _ h => h.elim,
    fun g cs hg => Rep.free (e := e) (.rp cs) e0 (fun _ _ h => h) (hR.glob g cs hg)⟩
  have hargs0 : Reps w e0 args us := ⟨hargs.1, fun i v u hv hu => ⟨Rep.free (e := e) (ha v (List.mem_of_getElem? hv)) e0 (fun _ _ h => h) (hargs.2 i v u hv hu).1, (ha v (List.mem_of_getElem? hv)).flagOk _ _⟩⟩
  refine CallsIn.mono (h w e0 us hR0 hargs0) ?_
  rintro en w' ⟨v, r, H', e', rfl, ⟨hfree, hΨ⟩, hR', hv, hx⟩
  have hnl : ∀ id, ¬ live ([] : Heap) id := fun id ⟨b, hb⟩ => by simp at hb
  have hblock : ∀ b, b < w.heap.size → w'.heap[b]? = w.heap[b]? := fun b hb => hx.block b hb (fun id hl => absurd hl (hnl id)) (fun c o h => h)
  have hcel : ∀ b o, b < w.heap.size → cel w' b o = cel w b o ∧ fro w' b o = fro w b o := by
    intro b o hb
    unfold cel fro World.cell? World.frozen?
    rw [hblock b hb]
    exact ⟨rfl, rfl⟩
  let e1 : Env := { N := e.N, ρ := e.ρ, RO := e'.RO, Sp := e.Sp }
  have m : Mono w e w' e1 := ⟨Nat.le_refl _, fun _ _ => rfl, fun b o h => ⟨hx.ro b o h, (hcel b o (lt_of_cel (hR.ro b o h))).1⟩, fun _ _ _ h => h⟩
  have hro : ∀ b o, e'.RO b o → e.RO b o ∨ w.heap.size ≤ b := by
    intro b o h
    rcases hx.roNew b o h with h | h | ⟨c, h⟩ | ⟨id, hl, _⟩
    · exact .inl h
    · exact .inr h
    · exact h.elim
    · exact absurd hl (hnl id)
  refine ⟨v, r, H, e1, rfl, ⟨rfl, hΨ⟩, ⟨hR.len, fun id b hb => (hR.blk id b hb).mono m (hblock _ (hR.blk id b hb).lt), hR.inj, hR'.ro, fun id o hl h => ?_, fun c b o h => ?_, hR.spd, fun g cs hg => (hR.glob g cs hg).mono m⟩,
    ⟨Rep.free (e := e') hfree e1 (fun _ _ h => h) hv.1, hfree.flagOk _ _⟩,
    ⟨hx.os, hx.tape, hx.output, hx.size, Nat.le_refl _, fun _ _ => rfl, fun id h1 h2 => ?_, fun _ _ h => h, hx.ro, fun b o h => ?_, fun c _ _ h => .inr ⟨c, h⟩, fun b o hb _ _ => hcel b o hb, fun b hb _ _ => hblock b hb⟩⟩
  · rcases hro _ _ h with h | h
    · exact hR.roOwn id o hl h
    · have := hR.liveLt hl
      change w.heap.size ≤ e.ρ id at h
      omega
  · obtain ⟨h1, h2, h3, h4⟩ := hR.sp c b o h
    have hlt := lt_of_cel h1
    refine ⟨by rw [(hcel b o hlt).1]; exact h1, by rw [(hcel b o hlt).2]; exact h2, fun h5 => ?_, h4⟩
    rcases hro _ _ h5 with h | h
    · exact h3 h
    · omega
  · have := live_lt h2
    omega
  · rcases hro _ _ h with h | h
    · exact .inl h
    · exact .inr (.inl h)

end Go.Abs
