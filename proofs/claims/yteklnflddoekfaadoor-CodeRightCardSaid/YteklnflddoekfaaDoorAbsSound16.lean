/- Iterators, and ranges over them. -/
import Derived.Test.YteklnflddoekfaaDoorAbsSound15
namespace Go.Abs
open Go.RowKit

variable {P : Program} {G : Nat → Option (List V)}

theorem Weak.cutH {σ : St} {H X : Heap} (vs' : List V) (hH : σ.H = H ++ X) (hs : Scoped H) (ht : VWs H.length σ.tmps vs') (hd : ∀ id ∈ σ.defs, id < H.length) (hc : ∀ id, σ.cur = some id → id < H.length) :
    Weak G σ { σ with tmps := vs', H := H } := by
  refine Weak.mk' vs' H ht ?_ hd hc
  rw [hH]
  refine BWs.of fun i y hy => ⟨y, by rw [List.getElem?_append_left (List.getElem?_eq_some_iff.1 hy).1]; exact hy, ?_⟩
  cases y with
  | none => exact .drop _
  | some b => exact hs i b hy

/-- A function that yields these, one after the other; K: what it leans on in the heap. -/
def IterOf (P : Program) (G : Nat → Option (List V)) (f : FuncId) (pre caps : List V) (items : List (List V)) (K : Heap → Prop) : Prop :=
  ∀ (id n : Nat) (Inv : Nat → Heap → Prop) (Fin : Heap → Prop) (H : Heap),
    (∀ i H', Inv i H' → H'.length = n ∧ id < n ∧ K H') →
    (∀ H', Fin H' → H'.length = n) →
    (∀ (i : Nat) (x : List V) (H' : Heap), items[i]? = some x → Inv i H' → Scoped H' → StYield P G id x H' fun r H'' => H''.length = H'.length ∧ ((r = .bool true ∧ Inv (i + 1) H'') ∨ (r = .bool false ∧ Fin H''))) →
    (∀ H', Inv items.length H' → Fin H') → Inv 0 H →
    StCall P G f ((pre ++ [V.yld id] ++ caps).map V.strip) H fun _ H' => Fin H'

/-- The heap in which a loop's rounds run. -/
def loopH (st : LoopState) (H : Heap) (T : List V) (ps : Array Tmp) (as bd : Code) : Heap := H ++ [some .defd, some (.loop st none T ps as bd H.length)]

/-- What a round's body owes. -/
def bodyΦ (σ : St) (H : Heap) (ps : Array Tmp) (as bd : Code) (Jn : Heap → Prop) (Φ : Exit → St → Prop) (x : Exit) (σ2 : St) : Prop :=
  ∃ H2 X, σ2.H = loopH .busy H2 (σ.tmps.map V.strip) ps as bd ++ X ∧ H2.length = σ.H.length ∧
    (∀ (id : Nat) (b : Blk), H2[id]? = some (some b) → H[id]? = some (some b) ∨ BW (σ.H.length + 2) (some b) (some b)) ∧
    match x with
    | .normal => Jn H2
    | .ret | .exit _ | .goto _ => Φ x { σ with tmps := σ.tmps.map V.strip, H := H2 ++ [some .defd, none], defs := σ.H.length :: σ.defs }
    | _ => False

theorem get_app {α : Type} (H L : List α) (k : Nat) : (H ++ L)[H.length + k]? = L[k]? := by
  rw [List.getElem?_append_right (by omega)]
  congr 1
  omega

theorem set_app {α : Type} (H L : List α) (k : Nat) (x : α) : (H ++ L).set (H.length + k) x = H ++ L.set k x := by
  rw [List.set_append_right _ _ (by omega)]
  congr 2
  omega

/-- A range over an iterator. -/
theorem wpc_rangeIterW {f : Operand} {ps : Array Tmp} {as bd : Code} {Φ : Exit → St → Prop} {σ : St} {g : FuncId} {fn : Func} {first caps : List V} {items : List (List V)} {K : Heap → Prop}
    (it : IterOf P G g first caps items K) (hcur : σ.cur = none) (hf : σ.ev f = .fn (.func g) first caps) (hfn : P.funcs[g]? = some fn) (hbody : fn.body.isSome) (hname : (fn.name == "runtime.NumGoroutine") = false)
    (J : Nat → Heap → Prop) (h0 : J 0 σ.H) (hlen : ∀ i H, J i H → H.length = σ.H.length)
    (hK : ∀ i H, J i H → K (loopH .ready H (σ.tmps.map V.strip) ps as bd))
    (hps : ∀ x ∈ items, x.length = ps.size)
    (round : ∀ (i : Nat) (x : List V) (H : Heap), items[i]? = some x → J i H → H.length = σ.H.length → Scoped (loopH .ready H (σ.tmps.map V.strip) ps as bd) →
      WPc P G as (fun ex σ1 => ex = .normal ∧ σ1.H[H.length + 1]? = some (some (.loop .ready none (σ.tmps.map V.strip) ps as bd H.length)) ∧
          WPc P G bd (bodyΦ σ H ps as bd (J (i + 1)) Φ) { σ1 with H := σ1.H.set (H.length + 1) (some (.loop .busy none (σ.tmps.map V.strip) ps as bd H.length)) })
        { tmps := setParams ps.toList x (σ.tmps.map V.strip), H := loopH .ready H (σ.tmps.map V.strip) ps as bd, defs := [], cur := some (H.length + 1) })
    (hfin : ∀ H, J items.length H → Φ .normal { σ with tmps := σ.tmps.map V.strip, H := H ++ [some .defd, none], defs := σ.H.length :: σ.defs }) :
    WPc P G (.rangeFunc f ps as bd) Φ σ := by
  refine wpc_rangeFunc hcur hf hfn hbody hname ?_
  have hstrip : ∀ T : List V, (T.map V.strip).map V.strip = T.map V.strip := fun T => by
    rw [List.map_map]
    exact List.map_congr_left fun v _ => by simp [strip_eq, demote_demote]
  have hH0 : σ.H ++ [some Blk.defd] ++ [some (Blk.loop .ready none (σ.tmps.map V.strip) ps as bd σ.H.length)] = loopH .ready σ.H (σ.tmps.map V.strip) ps as bd := by simp [loopH]
  rw [hH0]
  have hget : ∀ (st : LoopState) (H : Heap), (loopH st H (σ.tmps.map V.strip) ps as bd)[H.length + 1]? = some (some (.loop st none (σ.tmps.map V.strip) ps as bd H.length)) := fun st H => by
    unfold loopH
    rw [get_app]
    rfl
  refine (it (σ.H.length + 1) (σ.H.length + 2) (fun i H' => ∃ H, J i H ∧ H' = loopH .ready H (σ.tmps.map V.strip) ps as bd)
    (fun H' => H'.length = σ.H.length + 2 ∧ rangeΦ P G (σ.H.length + 1) σ (σ.H.length :: σ.defs) Φ H') _ ?_ (fun H' h => h.1) ?_ ?_ ⟨_, h0, rfl⟩).mono fun _ _ h => h.2
  · rintro i H' ⟨H, hJ, rfl⟩
    refine ⟨?_, by omega, hK i H hJ⟩
    simp [loopH, hlen i H hJ]
  · rintro i x H' hx ⟨H, hJ, rfl⟩ hs
    have hl := hlen i H hJ
    refine StYield.cut ?_
    rw [← hl]
    have hr := round i x H hx hJ hl hs
    refine stYield (hget .ready H) (hps x (List.mem_of_getElem? hx)) ?_
    rw [hstrip]
    refine hr.mono ?_
    rintro ex σ1 ⟨h1, h2, h3⟩
    refine ⟨h1, h2, h3.mono ?_⟩
    rintro ex2 σ2 ⟨H2, X, hσ2, hl2, hsc, hex⟩
    have hg2 : σ2.H[H.length + 1]? = some (some (.loop .busy none (σ.tmps.map V.strip) ps as bd H2.length)) := by
      rw [hσ2, List.getElem?_append_left (by simp [loopH]; omega), hl, ← hl2]
      exact hget .busy H2
    have hset : ∀ (st : LoopState) (pend : Option Code), σ2.H.set (H.length + 1) (some (.loop st pend (σ.tmps.map V.strip) ps as bd H2.length)) =
        (H2 ++ [some .defd, some (.loop st pend (σ.tmps.map V.strip) ps as bd H2.length)]) ++ X := by
      intro st pend
      rw [hσ2, List.set_append_left _ _ (by simp [loopH]; omega), hl, ← hl2]
      unfold loopH
      rw [set_app]
      rfl
    have hcut : ∀ (st : LoopState) (pend : Option Code), Cut (loopH .ready H (σ.tmps.map V.strip) ps as bd).length (loopH .ready H (σ.tmps.map V.strip) ps as bd) (σ2.H.set (H.length + 1) (some (.loop st pend (σ.tmps.map V.strip) ps as bd H2.length)))
        (H2 ++ [some .defd, some (.loop st pend (σ.tmps.map V.strip) ps as bd H2.length)]) := by
      intro st pend
      have hL : (loopH .ready H (σ.tmps.map V.strip) ps as bd).length = σ.H.length + 2 := by simp [loopH, hl]
      refine ⟨X, hset st pend, by simp [hL, hl2], fun id b hb => ?_⟩
      by_cases hid : id < H2.length
      · rw [List.getElem?_append_left hid] at hb
        rw [hL]
        rcases hsc id b hb with h | h
        · exact .inl (by unfold loopH; rw [List.getElem?_append_left (by omega)]; exact h)
        · exact .inr h
      · obtain ⟨k, rfl⟩ : ∃ k, id = H2.length + k := ⟨id - H2.length, by omega⟩
        rw [get_app] at hb
        match k, hb with
        | 0, hb =>
          simp at hb
          subst hb
          exact .inr .defd
        | 1, hb =>
          simp at hb
          subst hb
          right
          have := hs (H.length + 1) _ (hget .ready H)
          cases this with
          | loop _ _ _ _ _ _ _ _ h hd => exact .loop _ _ _ _ _ _ _ _ h (by rw [hL]; omega)
        | k + 2, hb => simp at hb
    unfold roundΦ
    rw [hg2]
    simp only
    have hsetN : ∀ b : Option Blk, (H2 ++ [some Blk.defd, b]).set (σ.H.length + 1) none = H2 ++ [some .defd, none] := fun b => by
      rw [← hl2, set_app]
      rfl
    have hgetN : ∀ b : Blk, (H2 ++ [some Blk.defd, some b])[σ.H.length + 1]? = some (some b) := fun b => by
      rw [← hl2, get_app]
      rfl
    cases ex2 with
    | normal =>
      refine ⟨_, hcut .ready none, .im _, ?_, .inl ⟨trivial, H2, hex, rfl⟩⟩
      simp [loopH, hl2, hl]
    | ret =>
      refine ⟨_, hcut .done (some .ret), .im _, by simp [loopH, hl2, hl], .inr ⟨trivial, by simp [hl2, hl], ?_⟩⟩
      unfold rangeΦ
      rw [hl, hgetN]
      simp only [hsetN, evCode]
      exact ⟨by simp, hex⟩
    | exit j =>
      refine ⟨_, hcut .done (some (.exit j)), .im _, by simp [loopH, hl2, hl], .inr ⟨trivial, by simp [hl2, hl], ?_⟩⟩
      unfold rangeΦ
      rw [hl, hgetN]
      simp only [hsetN, evCode]
      exact ⟨by simp, hex⟩
    | goto l =>
      refine ⟨_, hcut .done (some (.goto l)), .im _, by simp [loopH, hl2, hl], .inr ⟨trivial, by simp [hl2, hl], ?_⟩⟩
      unfold rangeΦ
      rw [hl, hgetN]
      simp only [hsetN, evCode]
      exact ⟨by simp, hex⟩
    | panic c => exact hex.elim
    | outgrown => exact hex.elim
  · rintro H' ⟨H, hJ, rfl⟩
    have hl := hlen _ H hJ
    refine ⟨by simp [loopH, hl], ?_⟩
    unfold rangeΦ
    rw [← hl, hget .ready H]
    simp only
    refine ⟨by simp, ?_⟩
    have : (loopH .ready H (σ.tmps.map V.strip) ps as bd).set (H.length + 1) none = H ++ [some .defd, none] := by
      unfold loopH
      rw [set_app]
      rfl
    rw [this, hl]
    exact hfin H hJ

end Go.Abs
