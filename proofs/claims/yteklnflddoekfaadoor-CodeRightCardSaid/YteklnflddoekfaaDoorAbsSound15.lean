/- Scope; cutting off what a call has laid for itself; the frame rule. -/
import Derived.Test.YteklnflddoekfaaDoorAbsSound14
namespace Go.Abs
open Go.RowKit

variable {P : Program} {G : Nat → Option (List V)}

/-! ### scope -/
theorem Rep.scope {w : World} {e : Env} {v : V} {u : Value} (h : Rep w e v u) : VW e.N v v := by
  induction h with
  | im v => exact .im v
  | str l => exact .str l
  | ptr id off hid => exact .ptr id off hid
  | rp cs b o u h1 h2 ih => exact .rp cs
  | nil es fl => exact .dat _ _ _
  | dat es rows fl => exact .dat _ _ _
  | arr id es len cap hid h => exact .arr id es len hid
  | fn f first caps first' caps' hl1 hl2 h1 h2 ih1 ih2 =>
    refine .fn f first caps (fun i v hv => ?_) (fun i v hv => ?_)
    · have hi : i < first'.size := by have := (List.getElem?_eq_some_iff.1 hv).1; omega
      exact ih1 i v _ hv (Array.getElem?_eq_getElem hi)
    · have hi : i < caps'.size := by have := (List.getElem?_eq_some_iff.1 hv).1; omega
      exact ih2 i v _ hv (Array.getElem?_eq_getElem hi)
  | mp id hid => exact .mp id hid
  | yld id hid => exact .yld id hid
  | agg cs us hl h ih =>
    refine .agg cs cs rfl fun i v v' hv hv' => ?_
    rw [hv] at hv'; cases hv'
    have hi : i < us.size := by have := (List.getElem?_eq_some_iff.1 hv).1; omega
    exact ih i v _ hv (Array.getElem?_eq_getElem hi)
  | tup cs us hl h ih =>
    refine .tup cs cs rfl fun i v v' hv hv' => ?_
    rw [hv] at hv'; cases hv'
    have hi : i < us.size := by have := (List.getElem?_eq_some_iff.1 hv).1; omega
    exact ih i v _ hv (Array.getElem?_eq_getElem hi)
  | bad v => exact .bad _

theorem VWs.self {n : Nat} : ∀ {vs : List V}, (∀ (i : Nat) (v : V), vs[i]? = some v → VW n v v) → VWs n vs vs
  | [], _ => .nil
  | _ :: _, h => .cons (h 0 _ rfl) (VWs.self fun i v hv => h (i + 1) v (by simpa using hv))

theorem RepBlk.scope {w : World} {e : Env} {r : Nat} {b : Blk} (h : RepBlk w e r b) : BW e.N (some b) (some b) := by
  cases h with
  | cells t vs cs hb hl hh =>
    refine .cells t vs vs (.self fun i v hv => ?_)
    have hi : i < cs.size := by have := (List.getElem?_eq_some_iff.1 hv).1; omega
    exact (hh i v _ hv (Array.getElem?_eq_getElem hi)).1.scope
  | iter k since stepped seen hb hd => exact .iter k since stepped seen hd
  | map es ms c hb hl hk hh =>
    have one : ∀ (i : Nat) (x : V × V), es[i]? = some x → VW e.N x.1 x.1 ∧ VW e.N x.2 x.2 := fun i x hx => by
      have hi : i < ms.size := by have := (List.getElem?_eq_some_iff.1 hx).1; omega
      have := hh i x _ hx (Array.getElem?_eq_getElem hi)
      exact ⟨this.1.scope, this.2.scope⟩
    refine .map es es c (.self fun i v hv => ?_) (.self fun i v hv => ?_)
    · rw [List.getElem?_map] at hv
      obtain ⟨x, hx, rfl⟩ := Option.map_eq_some_iff.1 hv
      exact (one i x hx).1
    · rw [List.getElem?_map] at hv
      obtain ⟨x, hx, rfl⟩ := Option.map_eq_some_iff.1 hv
      exact (one i x hx).2
  | defd hb => exact .defd
  | loop st pend fn tmps ps a b d us hb hd hl hh =>
    refine .loop st pend tmps tmps ps a b d (.self fun i v hv => ?_) hd
    have hi : i < us.size := by have := (List.getElem?_eq_some_iff.1 hv).1; omega
    exact (hh i v _ hv (Array.getElem?_eq_getElem hi)).scope

/-- No block of a heap names one beyond it. -/
def Scoped (H : Heap) : Prop := ∀ (id : Nat) (b : Blk), H[id]? = some (some b) → BW H.length (some b) (some b)

theorem RHeap.inScope {H : Heap} {w : World} {e : Env} (h : RHeap G H w e) : Scoped H := fun id b hb => by
  rw [← h.len]
  exact (h.blk id b hb).scope

theorem BWs.of {n : Nat} : ∀ {H' H : Heap}, (∀ (i : Nat) (y : Option Blk), H'[i]? = some y → ∃ x, H[i]? = some x ∧ BW n x y) → BWs n H H'
  | [], H, _ => .nil H
  | y :: H', [], h => by
    obtain ⟨x, hx, _⟩ := h 0 y rfl
    simp at hx
  | y :: H', x :: H, h => by
    obtain ⟨x', hx, hb⟩ := h 0 y rfl
    simp at hx
    subst hx
    exact .cons hb (BWs.of fun i y hy => by
      obtain ⟨x, hx, hb⟩ := h (i + 1) y (by simpa using hy)
      exact ⟨x, by simpa using hx, hb⟩)

/-! ### cutting off -/
/-- A heap whose first blocks are H1; all that these name is there. -/
def Cut (n : Nat) (H H' H1 : Heap) : Prop := ∃ X, H' = H1 ++ X ∧ H1.length = n ∧ ∀ (id : Nat) (b : Blk), H1[id]? = some (some b) → H[id]? = some (some b) ∨ BW n (some b) (some b)

theorem cut_post {H H' H1 : Heap} {w w' : World} {e e' : Env} {r : V} {v : Value} (hR : RHeap G H w e) (hc : Cut H.length H H' H1) (hr : VW H.length r r) (hR' : RHeap G H' w' e') (hv : RepF w' e' r v) (hx : Ext H w e H' w' e') :
    RHeap G H1 w' (e'.cutTo H.length) ∧ RepF w' (e'.cutTo H.length) r v ∧ Ext H w e H1 w' (e'.cutTo H.length) := by
  obtain ⟨X, rfl, hl, hsc⟩ := hc
  have hb : BWs H1.length (H1 ++ X) H1 := BWs.of fun i y hy => by
    refine ⟨y, by rw [List.getElem?_append_left (List.getElem?_eq_some_iff.1 hy).1]; exact hy, ?_⟩
    cases y with
    | none => exact .drop _
    | some b =>
      rw [hl]
      rcases hsc i b hy with h | h
      · exact hR.inScope i b h
      · exact h
  obtain ⟨h1, h2⟩ := hR'.cutTo hb
  have hn : H1.length ≤ e'.N := by rw [hR'.len]; simp
  rw [hl] at h1 hn
  exact ⟨h1, hr.repF hn hv, ⟨hx.os, hx.tape, hx.output, hx.size, by omega, hx.ρ, fun id h3 h4 => hx.new id h3 (h2 id h4), fun id h3 h4 => hx.old id h3 (h2 id h4), hx.ro, hx.roNew, hx.spNew, hx.cell, hx.block⟩⟩

theorem StCall.cut {f : FuncId} {args : List V} {H : Heap} {Ψ : V → Heap → Prop} (h : StCall P G f args H fun r H' => ∃ H1, Cut H.length H H' H1 ∧ VW H.length r r ∧ Ψ r H1) : StCall P G f args H Ψ := by
  intro w e us hR hargs
  refine CallsIn.mono (h w e us hR hargs) ?_
  rintro en w' ⟨v, r, H', e', rfl, ⟨H1, hc, hr, hΨ⟩, hR', hv, hx⟩
  obtain ⟨h1, h2, h3⟩ := cut_post hR hc hr hR' hv hx
  exact ⟨v, r, H1, _, rfl, hΨ, h1, h2, h3⟩

theorem StYield.mono {id : Nat} {args : List V} {H : Heap} {Ψ Ψ' : V → Heap → Prop} (h : StYield P G id args H Ψ) (hm : ∀ r H', Ψ r H' → Ψ' r H') : StYield P G id args H Ψ' := by
  intro w e us hR hargs
  obtain ⟨r, w1, l, f, tmps, as, bd, h1, h2, h3, h4⟩ := h w e us hR hargs
  refine ⟨r, w1, l, f, tmps, as, bd, h1, h2, h3, RoundIn.mono h4 ?_⟩
  rintro en w' ⟨v, r, H', e', h1, h2, h3⟩
  exact ⟨v, r, H', e', h1, hm _ _ h2, h3⟩

theorem StYield.cut {id : Nat} {args : List V} {H : Heap} {Ψ : V → Heap → Prop} (h : StYield P G id args H fun r H' => ∃ H1, Cut H.length H H' H1 ∧ VW H.length r r ∧ Ψ r H1) : StYield P G id args H Ψ := by
  intro w e us hR hargs
  obtain ⟨r, w1, l, f, tmps, as, bd, h1, h2, h3, h4⟩ := h w e us hR hargs
  refine ⟨r, w1, l, f, tmps, as, bd, h1, h2, h3, RoundIn.mono h4 ?_⟩
  rintro en w' ⟨v, r, H', e', rfl, ⟨H1, hc, hr, hΨ⟩, hR', hv, hx⟩
  obtain ⟨h1, h2, h3⟩ := cut_post hR hc hr hR' hv hx
  exact ⟨v, r, H1, _, rfl, hΨ, h1, h2, h3⟩

theorem StCall.inScope {f : FuncId} {args : List V} {H : Heap} {Ψ : V → Heap → Prop} (h : Scoped H → StCall P G f args H Ψ) : StCall P G f args H Ψ := fun w e us hR => h hR.inScope w e us hR
theorem StYield.inScope {id : Nat} {args : List V} {H : Heap} {Ψ : V → Heap → Prop} (h : Scoped H → StYield P G id args H Ψ) : StYield P G id args H Ψ := fun w e us hR => h hR.inScope w e us hR

/-! ### the frame rule -/
theorem RepBlk.mono2 {w w' : World} {e e' : Env} {r : Nat} {b : Blk} (h : RepBlk w e r b) (hN : e.N ≤ e'.N) (hρ : ∀ id, id < e.N → e'.ρ id = e.ρ id) (hro : ∀ b o, e.RO b o → e'.RO b o ∧ cel w' b o = cel w b o)
    (hsp : ∀ c, b.hasCls c = true → ∀ b o, e.Sp c b o → e'.Sp c b o) (hb : w'.heap[r]? = w.heap[r]?) : RepBlk w' e' r b := by
  cases h with
  | cells t vs cs hb' hl hh =>
    refine .cells t vs cs (hb.trans hb') hl fun i v u hv hu => ⟨(hh i v u hv hu).1.mono' hN hρ hro, (hh i v u hv hu).2.mono fun es rows c hc => hsp c ?_⟩
    subst hc
    simp only [Blk.hasCls, List.any_eq_true]
    exact ⟨_, List.mem_of_getElem? hv, by simp [V.hasCls]⟩
  | iter k since stepped seen hb' hd => exact .iter k since stepped seen (by rw [hρ k hd]; exact hb.trans hb') (by omega)
  | map es ms c hb' hl hk hh => exact .map es ms c (hb.trans hb') hl hk fun i x m hx hm => ⟨(hh i x m hx hm).1.mono' hN hρ hro, (hh i x m hx hm).2.mono' hN hρ hro⟩
  | defd hb' => exact .defd (hb.trans hb')
  | loop st pend fn tmps ps a b d us hb' hd hl hh =>
    exact .loop st pend fn tmps ps a b d us (by rw [hρ d hd]; exact hb.trans hb') (by omega) hl fun i v u hv hu => (hh i v u hv hu).mono' hN hρ hro

theorem hasCls_heap {H : Heap} {id : Nat} {b : Blk} {c : Nat} (h : H[id]? = some (some b)) (hc : b.hasCls c = true) : heapCls H c = true := by
  unfold heapCls
  rw [List.any_eq_true]
  exact ⟨some b, List.mem_of_getElem? h, hc⟩

/-- The environment of the first blocks alone. -/
def Env.first (e : Env) (H : Heap) : Env := { N := H.length, ρ := e.ρ, RO := e.RO, Sp := fun c b o => heapCls H c = true ∧ e.Sp c b o }
/-- Back. -/
def Env.back (e' e : Env) (H : Heap) : Env := { N := e.N, ρ := e.ρ, RO := e'.RO, Sp := fun c b o => e'.Sp c b o ∨ (heapCls H c = false ∧ e.Sp c b o) }

theorem rep_first {w : World} {e : Env} {H : Heap} (hN : H.length ≤ e.N) {v : V} {u : Value} (hs : VW H.length v v) (h : Rep w e v u) : Rep w (e.first H) v u :=
  (hs.rep hN h).mono' (e := e.cutTo H.length) (e' := e.first H) (Nat.le_refl _) (fun _ _ => rfl) fun _ _ h => ⟨h, rfl⟩

theorem RHeap.first {H X : Heap} {w : World} {e : Env} (hR : RHeap G (H ++ X) w e) (hs : Scoped H) : RHeap G H w (e.first H) := by
  have hlen := hR.len
  simp only [List.length_append] at hlen
  have hget : ∀ (id : Nat) (b : Option Blk), H[id]? = some b → (H ++ X)[id]? = some b := fun id b hb => by
    rw [List.getElem?_append_left (List.getElem?_eq_some_iff.1 hb).1]; exact hb
  have hlive : ∀ id, live H id → live (H ++ X) id := fun id ⟨b, hb⟩ => ⟨b, hget id _ hb⟩
  refine ⟨rfl, fun id b hb => ?_, fun i j hi hj => hR.inj i j (hlive i hi) (hlive j hj), hR.ro, fun id o hl => hR.roOwn id o (hlive id hl), fun c b o h => ?_, fun c c' b o h1 h2 => hR.spd c c' b o h1.2 h2.2, fun g cs h => ?_⟩
  · have h1 := (hs id b hb).repBlk (e := e) (by omega) (hR.blk id b (hget id _ hb))
    exact h1.mono2 (e := e.cutTo H.length) (e' := e.first H) (Nat.le_refl _) (fun _ _ => rfl) (fun _ _ h => ⟨h, rfl⟩) (fun c hc b' o h => ⟨hasCls_heap hb hc, h⟩) rfl
  · obtain ⟨h1, h2, h3, h4⟩ := hR.sp c b o h.2
    exact ⟨h1, h2, h3, fun id hl => h4 id (hlive id hl)⟩
  · exact rep_first (by omega) (.rp cs) (hR.glob g cs h)

theorem frame_post {H H' X : Heap} {w w' : World} {e e' : Env} {r : V} {v : Value} (hR : RHeap G (H ++ X) w e) (hX : ∀ c, heapCls X c = true → heapCls H c = false) (hl : H'.length = H.length)
    (hR' : RHeap G H' w' e') (hv : RepF w' e' r v) (hx : Ext H w (e.first H) H' w' e') :
    RHeap G (H' ++ X) w' (e'.back e H) ∧ RepF w' (e'.back e H) r v ∧ Ext (H ++ X) w e (H' ++ X) w' (e'.back e H) := by
  have hlen := hR.len
  simp only [List.length_append] at hlen
  have hlen' := hR'.len
  have hρ : ∀ id, id < e'.N → (e'.back e H).ρ id = e'.ρ id := fun id hid => (hx.ρ id (by omega)).symm
  have hgetH : ∀ (id : Nat) (b : Option Blk), H[id]? = some b → (H ++ X)[id]? = some b := fun id b hb => by
    rw [List.getElem?_append_left (List.getElem?_eq_some_iff.1 hb).1]; exact hb
  have hliveH : ∀ id, live H id → live (H ++ X) id := fun id ⟨b, hb⟩ => ⟨b, hgetH id _ hb⟩
  -- blocks of the new heap
  have hcase : ∀ id b, (H' ++ X)[id]? = some (some b) → (id < H.length ∧ H'[id]? = some (some b)) ∨ (H.length ≤ id ∧ (H ++ X)[id]? = some (some b)) := by
    intro id b hb
    by_cases hid : id < H'.length
    · rw [List.getElem?_append_left hid] at hb
      exact .inl ⟨by omega, hb⟩
    · rw [List.getElem?_append_right (by omega), hl] at hb
      exact .inr ⟨by omega, by rw [List.getElem?_append_right (by omega)]; exact hb⟩
  have hlive : ∀ id, live (H' ++ X) id → live (H ++ X) id ∧ ((id < H.length ∧ live H' id) ∨ (H.length ≤ id ∧ ¬ live H id)) := by
    rintro id ⟨b, hb⟩
    rcases hcase id b hb with ⟨h1, h2⟩ | ⟨h1, h2⟩
    · exact ⟨hliveH id (hx.old id h1 ⟨b, h2⟩), .inl ⟨h1, b, h2⟩⟩
    · exact ⟨⟨b, h2⟩, .inr ⟨h1, fun h => by have := live_lt h; omega⟩⟩
  -- what is the frame's own is not touched
  have hnown : ∀ id, live (H ++ X) id → H.length ≤ id → ∀ id', live H id' → e.ρ id' ≠ e.ρ id := fun id h1 h2 id' h3 he => by
    have := hR.inj id' id (hliveH id' h3) h1 he
    have := live_lt h3
    omega
  have hnsp : ∀ id, live (H ++ X) id → ∀ c o, ¬ (e.first H).Sp c (e.ρ id) o := fun id h1 c o h => (hR.sp c _ o h.2).2.2.2 id h1 rfl
  have hblk : ∀ id, live (H ++ X) id → H.length ≤ id → w'.heap[e.ρ id]? = w.heap[e.ρ id]? := fun id h1 h2 => hx.block _ (hR.liveLt h1) (hnown id h1 h2) (hnsp id h1)
  have hRf : ∀ b o, e.RO b o → e'.RO b o ∧ cel w' b o = cel w b o := by
    intro b o h
    refine ⟨hx.ro b o h, (hx.cell b o (lt_of_cel (hR.ro b o h)) (fun id hid he => ?_) fun c hc => ?_).1⟩
    · exact hR.roOwn id o (hliveH id hid) (he ▸ h)
    · exact (hR.sp c b o hc.2).2.2.1 h
  have hroN : ∀ id o, live (H ++ X) id → H.length ≤ id → ¬ e'.RO (e.ρ id) o := by
    intro id o h1 h2 h
    rcases hx.roNew _ _ h with h | h | ⟨c, h⟩ | ⟨id', h3, h4⟩
    · exact hR.roOwn id o h1 h
    · have := hR.liveLt h1; omega
    · exact hnsp id h1 c o h
    · exact hnown id h1 h2 id' h3 h4
  have hspOld : ∀ c b o, heapCls H c = false → e.Sp c b o → (∀ c', ¬ (e.first H).Sp c' b o) := by
    intro c b o hc h c' h'
    have := hR.spd c c' b o h h'.2
    subst this
    rw [h'.1] at hc
    cases hc
  refine ⟨⟨by show e.N = _; simp; omega, fun id b hb => ?_, fun i j hi hj he => ?_, hR'.ro, fun id o hli h => ?_, fun c b o h => ?_, fun c c' b o h1 h2 => ?_, fun g cs h => ?_⟩, ?_, ?_⟩
  · rcases hcase id b hb with ⟨h1, h2⟩ | ⟨h1, h2⟩
    · have := hR'.blk id b h2
      rw [hx.ρ id h1] at this
      exact this.mono2 (e' := e'.back e H) (by show e'.N ≤ e.N; omega) hρ (fun b o h => ⟨h, rfl⟩) (fun c _ b o h => .inl h) rfl
    · have := hR.blk id b h2
      refine this.mono2 (e' := e'.back e H) (Nat.le_refl _) (fun _ _ => rfl) hRf (fun c hc b' o h => .inr ⟨hX c ?_, h⟩) (hblk id ⟨b, h2⟩ h1)
      rw [List.getElem?_append_right h1] at h2
      exact hasCls_heap h2 hc
  · exact hR.inj i j (hlive i hi).1 (hlive j hj).1 he
  · obtain ⟨h1, h2⟩ := hlive id hli
    rcases h2 with ⟨h2, h3⟩ | ⟨h2, _⟩
    · refine hR'.roOwn id o h3 ?_
      rw [hx.ρ id h2]
      exact h
    · exact hroN id o h1 h2 h
  · rcases h with h | ⟨hc, h⟩
    · obtain ⟨h1, h2, h3, h4⟩ := hR'.sp c b o h
      refine ⟨h1, h2, h3, fun id hli he => ?_⟩
      obtain ⟨h5, h6⟩ := hlive id hli
      rcases h6 with ⟨h6, h7⟩ | ⟨h6, _⟩
      · exact h4 id h7 ((hx.ρ id h6).trans he)
      · rcases hx.spNew c b o h with h8 | ⟨c', h8⟩
        · have := hR.liveLt h5
          change e.ρ id = b at he
          omega
        · exact (hR.sp c' b o h8.2).2.2.2 id h5 he
    · obtain ⟨h1, h2, h3, h4⟩ := hR.sp c b o h
      have hlt := lt_of_cel h1
      have hcell := hx.cell b o hlt (fun id hid => h4 id (hliveH id hid)) (hspOld c b o hc h)
      refine ⟨by rw [hcell.1]; exact h1, by rw [hcell.2]; exact h2, fun h5 => ?_, fun id hli => h4 id (hlive id hli).1⟩
      rcases hx.roNew _ _ h5 with h6 | h6 | ⟨c', h6⟩ | ⟨id', h6, h7⟩
      · exact h3 h6
      · omega
      · exact hspOld c b o hc h c' h6
      · exact h4 id' (hliveH id' h6) h7
  · have cross : ∀ c c', e'.Sp c b o → heapCls H c' = false → e.Sp c' b o → c = c' := by
      intro c c' h1 hc h2
      rcases hx.spNew c b o h1 with h3 | ⟨c'', h3⟩
      · have := lt_of_cel (hR.sp c' b o h2).1; omega
      · exact absurd h3 (hspOld c' b o hc h2 c'')
    rcases h1 with h1 | ⟨hc1, h1⟩ <;> rcases h2 with h2 | ⟨hc2, h2⟩
    · exact hR'.spd c c' b o h1 h2
    · exact cross c c' h1 hc2 h2
    · exact (cross c' c h2 hc1 h1).symm
    · exact hR.spd c c' b o h1 h2
  · exact (hR'.glob g cs h).mono' (e' := e'.back e H) (by show e'.N ≤ e.N; omega) hρ fun b o h => ⟨h, rfl⟩
  · exact ⟨hv.1.mono' (e' := e'.back e H) (by show e'.N ≤ e.N; omega) hρ fun b o h => ⟨h, rfl⟩, hv.2.mono fun _ _ c _ b o h => .inl h⟩
  · refine ⟨hx.os, hx.tape, hx.output, hx.size, by simp [hl], fun _ _ => rfl, fun id h1 h2 => ?_, fun id _ h2 => (hlive id h2).1, hx.ro, fun b o h => ?_, fun c b o h => ?_, fun b o hb h1 h2 => ?_, fun b hb h1 h2 => ?_⟩
    · have := live_lt h2
      simp [hl] at this h1
      omega
    · rcases hx.roNew b o h with h1 | h1 | ⟨c, h1⟩ | ⟨id, h1, h2⟩
      · exact .inl h1
      · exact .inr (.inl h1)
      · exact .inr (.inr (.inl ⟨c, h1.2⟩))
      · exact .inr (.inr (.inr ⟨id, hliveH id h1, h2⟩))
    · rcases h with h | ⟨_, h⟩
      · rcases hx.spNew c b o h with h1 | ⟨c', h1⟩
        · exact .inl h1
        · exact .inr ⟨c', h1.2⟩
      · exact .inr ⟨c, h⟩
    · exact hx.cell b o hb (fun id hid => h1 id (hliveH id hid)) fun c hc => h2 c hc.2
    · exact hx.block b hb (fun id hid => h1 id (hliveH id hid)) fun c o hc => h2 c o hc.2

theorem reps_first {w : World} {e : Env} {H : Heap} (hN : H.length ≤ e.N) {vs : List V} {us : List Value} (ha : ∀ v ∈ vs, VW H.length v v ∧ v.strip = v) (h : Reps w e vs us) : Reps w (e.first H) vs us :=
  ⟨h.1, fun i v u hv hu => by
    obtain ⟨h1, h2⟩ := ha v (List.mem_of_getElem? hv)
    have := (rep_first hN h1 (h.2 i v u hv hu).1).strip
    rwa [h2] at this⟩

/-- What a call doesn't know of stays as it is. -/
theorem StCall.frame {f : FuncId} {args : List V} {H : Heap} {Ψ : V → Heap → Prop} (X : Heap) (hs : Scoped H) (ha : ∀ v ∈ args, VW H.length v v ∧ v.strip = v) (hX : ∀ c, heapCls X c = true → heapCls H c = false)
    (h : StCall P G f args H fun r H' => H'.length = H.length ∧ Ψ r H') : StCall P G f args (H ++ X) fun r H'' => ∃ H', H'' = H' ++ X ∧ H'.length = H.length ∧ Scoped H' ∧ Ψ r H' := by
  intro w e us hR hargs
  have hN : H.length ≤ e.N := by rw [hR.len]; simp
  refine CallsIn.mono (h w _ us (hR.first hs) (reps_first hN ha hargs)) ?_
  rintro en w' ⟨v, r, H', e', rfl, ⟨hl, hΨ⟩, hR', hv, hx⟩
  obtain ⟨h1, h2, h3⟩ := frame_post hR hX hl hR' hv hx
  exact ⟨v, r, _, _, rfl, ⟨H', rfl, hl, hR'.inScope, hΨ⟩, h1, h2, h3⟩

theorem StYield.frame {id : Nat} {args : List V} {H : Heap} {Ψ : V → Heap → Prop} (X : Heap) (hs : Scoped H) (ha : ∀ v ∈ args, VW H.length v v ∧ v.strip = v) (hX : ∀ c, heapCls X c = true → heapCls H c = false)
    (h : StYield P G id args H fun r H' => H'.length = H.length ∧ Ψ r H') : StYield P G id args (H ++ X) fun r H'' => ∃ H', H'' = H' ++ X ∧ H'.length = H.length ∧ Scoped H' ∧ Ψ r H' := by
  intro w e us hR hargs
  have hN : H.length ≤ e.N := by rw [hR.len]; simp
  obtain ⟨r, w1, l, f, tmps, as, bd, h1, h2, h3, h4⟩ := h w _ us (hR.first hs) (reps_first hN ha hargs)
  refine ⟨r, w1, l, f, tmps, as, bd, h1, h2, h3, RoundIn.mono h4 ?_⟩
  rintro en w' ⟨v, r, H', e', rfl, ⟨hl, hΨ⟩, hR', hv, hx⟩
  obtain ⟨h1, h2, h3⟩ := frame_post hR hX hl hR' hv hx
  exact ⟨v, r, _, _, rfl, ⟨H', rfl, hl, hR'.inScope, hΨ⟩, h1, h2, h3⟩

end Go.Abs
