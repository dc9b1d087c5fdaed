/- append, len, calls, rounds; and all operations together. -/
import Derived.Test.YteklnflddoekfaaDoorAbsSound6
import Derived.Laws.AppendOwn
namespace Go.Abs
open Go.RowKit

variable {P : Program} {G : Nat → Option (List V)}

/-! ### append -/

theorem run_loadCellsL {b o : Nat} {w : World} {n : Nat} {us : Nat → Value} (h : ∀ j, j < n → cel w b (o + j) = some (us j)) :
    (loadCells ⟨b, o, none⟩ n).run P w = .ok ((List.range n).map us).toArray w := run_loadCells h

/-- The machine's cells of the rows, as one list. -/
def flatU (es : Nat) (u : Nat → Nat → Value) (n : Nat) : List Value := (List.range (n * es)).map fun k => u (k / es) (k % es)

theorem at2_some {rows : List (List V)} {es : Nat} (hes : ∀ r ∈ rows, r.length = es) {k : Nat} (hk : k < rows.length * es) : ∃ v, at2 rows (k / es) (k % es) = some v := by
  have hpos : 0 < es := by
    rcases Nat.eq_zero_or_pos es with h | h
    · rw [h, Nat.mul_zero] at hk; omega
    · exact h
  have h1 : k / es < rows.length := (Nat.div_lt_iff_lt_mul hpos).2 hk
  have h2 : (rows[k / es]).length = es := hes _ (List.getElem_mem h1)
  have h3 : k % es < (rows[k / es]).length := by rw [h2]; exact Nat.mod_lt _ hpos
  exact ⟨(rows[k / es])[k % es], by simp only [at2, List.getElem?_eq_getElem h1, Option.bind_some, List.getElem?_eq_getElem h3]⟩

theorem at2_lt {rows : List (List V)} {es : Nat} (hes : ∀ r ∈ rows, r.length = es) {i j : Nat} {v : V} (h : at2 rows i j = some v) : i < rows.length ∧ j < es := by
  unfold at2 at h
  obtain ⟨r, hr, hj⟩ := Option.bind_eq_some_iff.1 h
  obtain ⟨hi, hri⟩ := List.getElem?_eq_some_iff.1 hr
  refine ⟨hi, ?_⟩
  rw [← hes r (hri ▸ List.getElem_mem hi)]
  exact (List.getElem?_eq_some_iff.1 hj).1

theorem run_firstCells {w : World} {es : Nat} {rows : List (List V)} {b o cap : Nat} {u : Nat → Nat → Value} (hes : ∀ r ∈ rows, r.length = es)
    (h1 : ∀ (i j : Nat) (v : V), at2 rows i j = some v → cel w b (o + (i * es + j)) = some (u i j)) :
    (Builtin.firstCells es rows.length (.slice (some ⟨b, o, none⟩) rows.length cap)).run P w = .ok (flatU es u rows.length).toArray w := by
  unfold Builtin.firstCells
  rw [run_loadCells (us := fun k => u (k / es) (k % es)) (fun k hk => ?_)]
  · rfl
  · obtain ⟨v, hv⟩ := at2_some hes hk
    have := h1 _ _ v hv
    rwa [Nat.div_add_mod' k es] at this

theorem at2_append {xs ys : List (List V)} {i j : Nat} {v : V} (h : at2 (xs ++ ys) i j = some v) : at2 xs i j = some v ∨ (xs.length ≤ i ∧ at2 ys (i - xs.length) j = some v) := by
  unfold at2 at *
  by_cases hi : i < xs.length
  · rw [List.getElem?_append_left hi] at h
    exact .inl h
  · rw [List.getElem?_append_right (by omega)] at h
    exact .inr ⟨by omega, h⟩

theorem run_append_grow' {t t' ty el : TypeId} {i : TypeInfo} {z : Value} (ht : P.underlying t = some (.slice el)) (ht' : notInt P t' = true) (hi : P.info? el = some i) (hz : i.zero = some z)
    (w : World) (base : Option Addr) (sLen sCap m : Nat) (y : Value) (olds news : List Value) (hlen : (Builtin.lenOf y).run P w = .ok m w)
    (hfo : (Builtin.firstCells i.size sLen (.slice base sLen sCap)).run P w.drew = .ok olds.toArray w.drew) (hfn : (Builtin.firstCells i.size m y).run P w.drew = .ok news.toArray w.drew)
    (hg : sCap < sLen + m) (h63 : sLen + m ≤ maxBytes) (hfit : (sLen + m) * i.bytes ≤ maxBytes) :
    (Builtin.append_ #[t, t'] ty #[.slice base sLen sCap, y]).run P w =
      .ok (.slice (some ⟨w.heap.size, 0, none⟩) (sLen + m) (grownCap w (sLen + m) sCap el))
        (w.drew.alloc (.cells (olds.toArray ++ news.toArray ++ Builtin.zeroCells z.cells (grownCap w (sLen + m) sCap el - (sLen + m))) el)) := by
  unfold maxBytes at h63 hfit
  have hn : ¬ (sLen + m ≤ sCap) := by omega
  have h63' : ¬ (9223372036854775807 < ((sLen : Int) + (m : Int))) := by omega
  have h48 := growslice_fits (old := sCap) (bytes := i.bytes) hg (by omega)
  have h48' : ¬ (281474976710656 < Builtin.nextslicecap (sLen + m) sCap * i.bytes) := by omega
  obtain ⟨td, htd⟩ : ∃ td, P.underlying t' = some (.slice td) := by
    unfold notInt at ht'
    split at ht'
    · exact ⟨_, by assumption⟩
    · cases ht'
  simp [Builtin.append_, run_underlying ht, run_underlying htd, sizeOf, typeInfo, zeroValue, hi, hz, hlen, hn, h63', h48', Question.forced, hfn, hfo, newRow, grownCap, Array.append_assoc]
  congr 2
  rw [← List.append_toArray, Array.append_assoc]

theorem run_append_room' {t t' ty el : TypeId} {i : TypeInfo} (ht : P.underlying t = some (.slice el)) (ht' : notInt P t' = true) (hi : P.info? el = some i)
    (w w' : World) (base : Option Addr) (sLen sCap m : Nat) (y : Value) (news : List Value) (hlen : (Builtin.lenOf y).run P w = .ok m w)
    (hfn : (Builtin.firstCells i.size m y).run P w = .ok news.toArray w) (hroom : sLen + m ≤ sCap)
    (hst : match base with
      | some a => (storeCells (a.add (sLen * i.size)) news).run P w = .ok () w'
      | none => w' = w) :
    (Builtin.append_ #[t, t'] ty #[.slice base sLen sCap, y]).run P w = .ok (.slice base (sLen + m) sCap) w' := by
  obtain ⟨td, htd⟩ : ∃ td, P.underlying t' = some (.slice td) := by
    unfold notInt at ht'
    split at ht'
    · exact ⟨_, by assumption⟩
    · cases ht'
  cases base with
  | none =>
    simp only at hst
    subst hst
    simp [Builtin.append_, run_underlying ht, run_underlying htd, sizeOf, typeInfo, hi, hlen, hfn, hroom]
  | some a =>
    simp only at hst
    simp [Builtin.append_, run_underlying ht, run_underlying htd, sizeOf, typeInfo, hi, hlen, hfn, hroom, hst]

/-! ### writing spare places -/
theorem run_storeCells2 (b : Nat) (vs : List Value) : ∀ (w : World) (o i : Nat), (∀ j, j < vs.length → (cel w b (o + i + j)).isSome ∧ fro w b (o + i + j) = false) → (∀ v ∈ vs, one v = true) →
    (storeCells ⟨b, o, none⟩ vs i).run P w = .ok () (setCells w b (o + i) vs) := by
  induction vs with
  | nil => intro w o i _ _; rfl
  | cons v rest ih =>
    intro w o i h h1
    simp only [storeCells]
    rw [Sem.run_bind, addr_add]
    obtain ⟨hc, hf⟩ := h 0 (by simp)
    rw [Nat.add_zero] at hc hf
    obtain ⟨u, hu⟩ := Option.isSome_iff_exists.1 hc
    have hs : (store ⟨b, o + i, none⟩ v).run P w = .ok () (w.setCell ⟨b, o + i, none⟩ v) := by
      have hc' : w.cell? ⟨b, o + i, none⟩ = some u := hu
      have hf' : w.frozen? ⟨b, o + i, none⟩ = false := hf
      have hv := h1 v (by simp)
      cases v <;> first
        | (simp [one] at hv; done)
        | (simp [store, Sem.run, hc', hf'])
    rw [hs]
    simp only [Result.andThen]
    rw [ih _ o (i + 1) (fun j hj => by
      obtain ⟨hc2, hf2⟩ := h (j + 1) (by simp; omega)
      rw [cel_setCell, fro_setCell, show o + (i + 1) + j = o + i + (j + 1) by omega]
      refine ⟨?_, hf2⟩
      split
      · rfl
      · exact hc2) (fun v hv => h1 v (by simp [hv]))]
    rfl

theorem cel_setCells (b : Nat) (vs : List Value) : ∀ (w : World) (o : Nat), (∀ j, j < vs.length → (cel w b (o + j)).isSome) → ∀ b' o',
    cel (setCells w b o vs) b' o' = if b' = b ∧ o ≤ o' ∧ o' < o + vs.length then vs[o' - o]? else cel w b' o' := by
  induction vs with
  | nil => intro w o _ b' o'; rw [if_neg (by simp)]; rfl
  | cons v rest ih =>
    intro w o h b' o'
    rw [setCells, ih _ _ (fun j hj => by
      have := h (j + 1) (by simp; omega)
      rw [cel_setCell, show o + 1 + j = o + (j + 1) by omega]
      split
      · rfl
      · exact this)]
    rw [cel_setCell]
    have h0 := h 0 (by simp)
    rw [Nat.add_zero] at h0
    by_cases hb : b' = b
    · subst hb
      simp only [true_and, h0, and_true, List.length_cons]
      by_cases h1 : o' = o
      · subst h1
        rw [if_neg (by omega), if_pos rfl, if_pos (by omega)]
        simp
      · by_cases h2 : o + 1 ≤ o' ∧ o' < o + 1 + rest.length
        · rw [if_pos h2, if_pos (by omega)]
          obtain ⟨k, hk⟩ : ∃ k, o' - o = k + 1 := ⟨o' - o - 1, by omega⟩
          rw [hk, show o' - (o + 1) = k by omega]
          simp
        · rw [if_neg h2, if_neg h1]
          by_cases h3 : o ≤ o' ∧ o' < o + (rest.length + 1)
          · omega
          · rw [if_neg h3]
    · simp [hb]

theorem fro_setCells (b : Nat) (vs : List Value) : ∀ (w : World) (o b' o' : Nat), fro (setCells w b o vs) b' o' = fro w b' o' := by
  induction vs with
  | nil => intro w o b' o'; rfl
  | cons v rest ih => intro w o b' o'; rw [setCells, ih, fro_setCell]

/-- What keeps every value as it was that is not of class c. -/
structure MonoC (c : Nat) (w : World) (e : Env) (w' : World) (e' : Env) : Prop where
  N : e.N ≤ e'.N
  ρ : ∀ id, id < e.N → e'.ρ id = e.ρ id
  ro : ∀ b o, e.RO b o → e'.RO b o ∧ cel w' b o = cel w b o
  sp : ∀ c' b o, c' ≠ c → e.Sp c' b o → e'.Sp c' b o

theorem RepF.monoC {c : Nat} {w w' : World} {e e' : Env} {v : V} {u : Value} (h : RepF w e v u) (m : MonoC c w e w' e') : RepF w' e' (V.demote (· == c) v) u := by
  have h1 := h.1.mono' m.N m.ρ m.ro
  refine ⟨rep_demote _ h1, ?_⟩
  have h2 := flagOk_demote (· == c) h.2
  refine h2.mono fun es rows c' hv b o hs => m.sp c' b o ?_ hs
  intro hc
  subst hc
  cases v with
  | dat es' rows' fl =>
    cases fl with
    | cls c2 =>
      simp only [V.demote] at hv
      split at hv
      · cases hv
      · rename_i hne
        cases hv
        simp at hne
    | no => simp [V.demote] at hv
    | tight => simp [V.demote] at hv
  | _ => simp [V.demote] at hv

theorem Reps.monoC {c : Nat} {w w' : World} {e e' : Env} {vs : List V} {us : List Value} (h : Reps w e vs us) (m : MonoC c w e w' e') : Reps w' e' (vs.map (V.demote (· == c))) us := by
  refine ⟨by simpa using h.1, fun i v u hv hu => ?_⟩
  rw [List.getElem?_map] at hv
  obtain ⟨v', hv', rfl⟩ := Option.map_eq_some_iff.1 hv
  exact (h.2 i v' u hv' hu).monoC m

theorem RepBlk.monoC {c : Nat} {w w' : World} {e e' : Env} {r : Nat} {b : Blk} (h : RepBlk w e r b) (m : MonoC c w e w' e') (hb : w'.heap[r]? = w.heap[r]?) : RepBlk w' e' r (b.demote (· == c)) := by
  have mm : ∀ {v u}, Rep w e v u → Rep w' e' v u := fun h => h.mono' m.N m.ρ m.ro
  cases h with
  | cells t vs cs hc hl h =>
    refine .cells t _ cs (hb.trans hc) (by simpa using hl) fun i v u hv hu => ?_
    rw [List.getElem?_map] at hv
    obtain ⟨v', hv', rfl⟩ := Option.map_eq_some_iff.1 hv
    exact (h i v' u hv' hu).monoC m
  | map es ms clock hc hl hk h => exact .map es ms clock (hb.trans hc) hl hk fun i x y hx hy => ⟨mm (h i x y hx hy).1, mm (h i x y hx hy).2⟩
  | iter k since stepped seen hc hd => exact .iter k since stepped seen (by rw [hb, hc, m.ρ k hd]) (Nat.lt_of_lt_of_le hd m.N)
  | loop st pend fn tmps params assign body d us hc hd hl h =>
    exact .loop st pend fn tmps params assign body d us (by rw [hb, hc, m.ρ d hd]) (Nat.lt_of_lt_of_le hd m.N) hl fun i v u hv hu => mm (h i v u hv hu)
  | defd hc => exact .defd (hb.trans hc)

theorem live_demoteH {p : Nat → Bool} {H : Heap} {id : Nat} : live (demoteH p H) id ↔ live H id := by
  unfold live demoteH
  rw [List.getElem?_map]
  constructor
  · rintro ⟨b, hb⟩
    obtain ⟨x, hx, hb⟩ := Option.map_eq_some_iff.1 hb
    obtain ⟨b', rfl, _⟩ := Option.map_eq_some_iff.1 hb
    exact ⟨b', hx⟩
  · rintro ⟨b, hb⟩
    exact ⟨b.demote p, by rw [hb]; rfl⟩

/-- The spare places that are written become read-only. -/
def Env.fill (e : Env) (r lo n : Nat) : Env :=
  { e with RO := fun b o => e.RO b o ∨ (b = r ∧ lo ≤ o ∧ o < lo + n), Sp := fun c b o => e.Sp c b o ∧ ¬ (b = r ∧ lo ≤ o ∧ o < lo + n) }

theorem RHeap.fill {H : Heap} {w : World} {e : Env} (hR : RHeap G H w e) (c r lo : Nat) (vs : List Value) (hs : ∀ j, j < vs.length → e.Sp c r (lo + j)) :
    MonoC c w e (setCells w r lo vs) (e.fill r lo vs.length) ∧ RHeap G (demoteH (· == c) H) (setCells w r lo vs) (e.fill r lo vs.length) ∧
    Ext H w e (demoteH (· == c) H) (setCells w r lo vs) (e.fill r lo vs.length) := by
  have hcel := cel_setCells r vs w lo (fun j hj => (hR.sp c r _ (hs j hj)).1)
  have hin : ∀ b o, (b = r ∧ lo ≤ o ∧ o < lo + vs.length) → e.Sp c b o := by
    rintro b o ⟨rfl, h1, h2⟩
    have := hs (o - lo) (by omega)
    rwa [show lo + (o - lo) = o by omega] at this
  have hsize := setCells_size r vs w lo
  by_cases hvs : vs = []
  · subst hvs
    have e1 : setCells w r lo [] = w := rfl
    have m : MonoC c w e (setCells w r lo []) (e.fill r lo 0) := ⟨Nat.le_refl _, fun _ _ => rfl, fun b o h => ⟨.inl h, rfl⟩, fun c' b o _ h => ⟨h, fun hh => by omega⟩⟩
    refine ⟨m, ⟨by simp [demoteH]; exact hR.len, ?_, ?_, ?_, ?_, ?_, ?_, ?_⟩, ⟨rfl, rfl, rfl, Nat.le_refl _, by simp [demoteH], fun _ _ => rfl, ?_, fun id _ h => live_demoteH.1 h, fun _ _ h => .inl h, ?_, ?_, fun _ _ _ _ _ => ⟨rfl, rfl⟩, fun _ _ _ _ => rfl⟩⟩
    · intro id b hb
      unfold demoteH at hb
      rw [List.getElem?_map] at hb
      obtain ⟨x, hx, hb⟩ := Option.map_eq_some_iff.1 hb
      obtain ⟨b', rfl, rfl⟩ := Option.map_eq_some_iff.1 hb
      exact (hR.blk id b' hx).monoC m rfl
    · exact fun i j hi hj => hR.inj i j (live_demoteH.1 hi) (live_demoteH.1 hj)
    · rintro b o (h | ⟨_, h1, h2⟩)
      · exact hR.ro b o h
      · simp at h2; omega
    · rintro id o hl (h | ⟨_, h1, h2⟩)
      · exact hR.roOwn id o (live_demoteH.1 hl) h
      · simp at h2; omega
    · rintro c' b o ⟨h, _⟩
      obtain ⟨h1, h2, h3, h4⟩ := hR.sp c' b o h
      refine ⟨h1, h2, ?_, fun id hl => h4 id (live_demoteH.1 hl)⟩
      rintro (h5 | ⟨_, h5, h6⟩)
      · exact h3 h5
      · simp at h6; omega
    · exact fun c1 c2 b o h1 h2 => hR.spd c1 c2 b o h1.1 h2.1
    · exact fun g cs h => (hR.glob g cs h).mono' m.N m.ρ m.ro
    · intro id hid hl
      have := live_lt (live_demoteH.1 hl)
      omega
    · rintro b o (h | ⟨_, h1, h2⟩)
      · exact .inl h
      · simp at h2; omega
    · exact fun c' b o h => .inr ⟨c', h.1⟩
  · have hr : r < w.heap.size := by
      obtain ⟨v, rest, rfl⟩ : ∃ v rest, vs = v :: rest := by
        cases vs with
        | nil => exact absurd rfl hvs
        | cons v rest => exact ⟨v, rest, rfl⟩
      have := hs 0 (by simp)
      exact lt_of_cel (hR.sp _ _ _ this).1
    have hown : ∀ id, live H id → e.ρ id ≠ r := by
      intro id hl
      have h0 : 0 < vs.length := List.length_pos_iff.2 hvs
      exact (hR.sp c r _ (hs 0 h0)).2.2.2 id hl
    have m : MonoC c w e (setCells w r lo vs) (e.fill r lo vs.length) := by
      refine ⟨Nat.le_refl _, fun _ _ => rfl, fun b o h => ⟨.inl h, ?_⟩, fun c' b o hc h => ⟨h, fun hh => hc (hR.spd c' c b o h (hin b o hh))⟩⟩
      rw [hcel b o, if_neg]
      exact fun hh => (hR.sp c b o (hin b o hh)).2.2.1 h
    refine ⟨m, ⟨by simp [demoteH]; exact hR.len, ?_, ?_, ?_, ?_, ?_, ?_, ?_⟩, ⟨(setCells_rest _ _ _ _).1, (setCells_rest _ _ _ _).2.1, (setCells_rest _ _ _ _).2.2, by omega, by simp [demoteH], fun _ _ => rfl, ?_, fun id _ h => live_demoteH.1 h, fun _ _ h => .inl h, ?_, ?_, ?_, ?_⟩⟩
    · intro id b hb
      unfold demoteH at hb
      rw [List.getElem?_map] at hb
      obtain ⟨x, hx, hb⟩ := Option.map_eq_some_iff.1 hb
      obtain ⟨b', rfl, rfl⟩ := Option.map_eq_some_iff.1 hb
      exact (hR.blk id b' hx).monoC m (setCells_other _ _ _ _ _ (hown id ⟨b', hx⟩))
    · exact fun i j hi hj => hR.inj i j (live_demoteH.1 hi) (live_demoteH.1 hj)
    · rintro b o (h | h)
      · rw [(m.ro b o h).2]; exact hR.ro b o h
      · rw [hcel b o, if_pos h]
        obtain ⟨_, h1, h2⟩ := h
        rw [List.getElem?_eq_getElem (by omega)]
        rfl
    · rintro id o hl (h | ⟨h, _⟩)
      · exact hR.roOwn id o (live_demoteH.1 hl) h
      · exact hown id (live_demoteH.1 hl) h
    · rintro c' b o ⟨h, hn⟩
      obtain ⟨h1, h2, h3, h4⟩ := hR.sp c' b o h
      refine ⟨by rw [hcel b o, if_neg hn]; exact h1, by rw [fro_setCells]; exact h2, ?_, fun id hl => h4 id (live_demoteH.1 hl)⟩
      rintro (h5 | h5)
      · exact h3 h5
      · exact hn h5
    · exact fun c1 c2 b o h1 h2 => hR.spd c1 c2 b o h1.1 h2.1
    · exact fun g cs h => (hR.glob g cs h).mono' m.N m.ρ m.ro
    · intro id hid hl
      have := live_lt (live_demoteH.1 hl)
      omega
    · rintro b o (h | h)
      · exact .inl h
      · exact .inr (.inr (.inl ⟨c, hin b o h⟩))
    · exact fun c' b o h => .inr ⟨c', h.1⟩
    · intro b o _ _ hsp
      refine ⟨?_, fro_setCells _ _ _ _ _ _⟩
      rw [hcel b o, if_neg]
      exact fun hh => hsp c (hin b o hh)
    · intro b _ _ hsp
      refine setCells_other _ _ _ _ _ fun hb => ?_
      subst hb
      have h0 : 0 < vs.length := List.length_pos_iff.2 hvs
      exact hsp c _ (hs 0 h0)

theorem RSt.fill {σ : St} {a : Act} {w : World} {e : Env} (h : RSt G σ a w e) (c r lo : Nat) (vs : List Value) (hs : ∀ j, j < vs.length → e.Sp c r (lo + j)) :
    RSt G { σ with tmps := σ.tmps.map (V.demote (· == c)), H := demoteH (· == c) σ.H } a (setCells w r lo vs) (e.fill r lo vs.length) :=
  ⟨(h.heap.fill c r lo vs hs).2.1, h.tmps.monoC (h.heap.fill c r lo vs hs).1, h.defs, h.defsN, h.cur⟩

/-- Giving up a class's spare places changes nothing. -/
theorem RSt.demote {σ : St} {a : Act} {w : World} {e : Env} (h : RSt G σ a w e) (c : Nat) :
    RSt G { σ with tmps := σ.tmps.map (V.demote (· == c)), H := demoteH (· == c) σ.H } a w e ∧ Ext σ.H w e (demoteH (· == c) σ.H) w e := by
  have m : MonoC c w e w e := ⟨Nat.le_refl _, fun _ _ => rfl, fun _ _ h => ⟨h, rfl⟩, fun _ _ _ _ h => h⟩
  have hR := h.heap
  refine ⟨⟨⟨by simp [demoteH]; exact hR.len, ?_, fun i j hi hj => hR.inj i j (live_demoteH.1 hi) (live_demoteH.1 hj), hR.ro, fun id o hl => hR.roOwn id o (live_demoteH.1 hl), ?_, hR.spd, hR.glob⟩, h.tmps.monoC m, h.defs, h.defsN, h.cur⟩,
    ⟨rfl, rfl, rfl, Nat.le_refl _, by simp [demoteH], fun _ _ => rfl, ?_, fun id _ h => live_demoteH.1 h, fun _ _ h => h, fun _ _ h => .inl h, fun c' _ _ h => .inr ⟨c', h⟩, fun _ _ _ _ _ => ⟨rfl, rfl⟩, fun _ _ _ _ => rfl⟩⟩
  · intro id b hb
    unfold demoteH at hb
    rw [List.getElem?_map] at hb
    obtain ⟨x, hx, hb⟩ := Option.map_eq_some_iff.1 hb
    obtain ⟨b', rfl, rfl⟩ := Option.map_eq_some_iff.1 hb
    exact (hR.blk id b' hx).monoC m rfl
  · intro c' b o h
    obtain ⟨h1, h2, h3, h4⟩ := hR.sp c' b o h
    exact ⟨h1, h2, h3, fun id hl => h4 id (live_demoteH.1 hl)⟩
  · intro id hid hl
    have := live_lt (live_demoteH.1 hl)
    omega

theorem Mono.drew (w : World) (e : Env) : Mono w e w.drew e := ⟨Nat.le_refl _, fun _ _ => rfl, fun _ _ h => ⟨h, rfl⟩, fun _ _ _ h => h⟩

theorem RSt.drew {σ : St} {a : Act} {w : World} {e : Env} (h : RSt G σ a w e) : RSt G σ a w.drew e ∧ Ext σ.H w e σ.H w.drew e := by
  have hR := h.heap
  have m := Mono.drew w e
  refine ⟨⟨⟨hR.len, fun id b hb => (hR.blk id b hb).mono m rfl, hR.inj, hR.ro, hR.roOwn, hR.sp, hR.spd, fun g cs hg => (hR.glob g cs hg).mono m⟩, h.tmps.mono m, h.defs, h.defsN, h.cur⟩,
    ⟨rfl, rfl, rfl, Nat.le_refl _, Nat.le_refl _, fun _ _ => rfl, ?_, fun _ _ h => h, fun _ _ h => h, fun _ _ h => .inl h, fun c _ _ h => .inr ⟨c, h⟩, fun _ _ _ _ _ => ⟨rfl, rfl⟩, fun _ _ _ _ => rfl⟩⟩
  intro id hid hl
  have := live_lt hl
  omega

/-- The cells of a slice, as the machine takes them. -/
theorem rows_cells {w : World} {e : Env} {es s : Nat} {rows : List (List V)} {fl : Fl} {u : Value} (h : Rep w e (.dat es rows fl) u) (hes : rows = [] ∨ es = s) :
    ∃ (base : Option Addr) (cap : Nat) (l : List Value), u = .slice base rows.length cap ∧ rows.length ≤ cap ∧ (base = none → cap = 0) ∧ (fl = .tight → cap = rows.length) ∧ l.length = rows.length * s ∧ (∀ r ∈ rows, r.length = s) ∧
      (∀ w' : World, (∀ b o, cel w' b o = cel w b o) → (Builtin.firstCells s rows.length u).run P w' = .ok l.toArray w') ∧
      (∀ (i j : Nat) (v : V), at2 rows i j = some v → ∃ x, l[i * s + j]? = some x ∧ Rep w e.pure v x) ∧
      (∀ b o, base = some ⟨b, o, none⟩ → ∀ (i j : Nat) (v : V) (x : Value), at2 rows i j = some v → l[i * s + j]? = some x → cel w b (o + (i * s + j)) = some x ∧ e.RO b (o + (i * s + j))) ∧
      (∀ a, base = some a → a.spot = none) := by
  cases h with
  | nil =>
    exact ⟨none, 0, [], rfl, Nat.le_refl _, fun _ => rfl, fun _ => rfl, by simp, by simp, fun w' _ => rfl, fun i j v hv => by simp [at2] at hv, fun b o h => by simp at h, fun a h => by simp at h⟩
  | dat _ _ _ b o cap uu hes' hcap ht h1 h2 =>
    have hrs : ∀ r ∈ rows, r.length = s := by
      rcases hes with h | h
      · subst h; simp
      · subst h; exact hes'
    have hs : ∀ (i j : Nat) (v : V), at2 rows i j = some v → es = s := by
      intro i j v hv
      rcases hes with h | h
      · subst h; simp [at2] at hv
      · exact h
    refine ⟨some ⟨b, o, none⟩, cap, flatU s uu rows.length, rfl, hcap, (fun h => nomatch h), ht, (by simp [flatU]), hrs, fun w' hw' => ?_, fun i j v hv => ?_, fun b' o' hb i j v x hv hx => ?_, fun a ha => ?_⟩
    · refine run_firstCells hrs fun i j v hv => ?_
      rw [hw']
      have := (h1 i j v hv).1
      rwa [hs i j v hv] at this
    · obtain ⟨hi, hj⟩ := at2_lt hrs hv
      have hlt : i * s + j < rows.length * s := by
        have : (i + 1) * s ≤ rows.length * s := Nat.mul_le_mul_right s hi
        rw [Nat.succ_mul] at this
        omega
      refine ⟨uu i j, ?_, h2 i j v hv⟩
      simp only [flatU, List.getElem?_map, List.getElem?_range hlt, Option.map_some, Option.some.injEq]
      rw [Nat.mul_comm i s, Nat.mul_add_div (by omega), Nat.mul_add_mod, Nat.div_eq_of_lt hj, Nat.mod_eq_of_lt hj, Nat.add_zero]
    · simp only [Option.some.injEq, Addr.mk.injEq, and_true] at hb
      obtain ⟨rfl, rfl⟩ := hb
      obtain ⟨hi, hj⟩ := at2_lt hrs hv
      have hlt : i * s + j < rows.length * s := by
        have : (i + 1) * s ≤ rows.length * s := Nat.mul_le_mul_right s hi
        rw [Nat.succ_mul] at this
        omega
      simp only [flatU, List.getElem?_map, List.getElem?_range hlt, Option.map_some, Option.some.injEq] at hx
      rw [Nat.mul_comm i s, Nat.mul_add_div (by omega), Nat.mul_add_mod, Nat.div_eq_of_lt hj, Nat.mod_eq_of_lt hj, Nat.add_zero] at hx
      have := h1 i j v hv
      rw [hs i j v hv, hx, Nat.mul_comm i s] at this
      rwa [Nat.mul_comm i s]
    · simp only [Option.some.injEq] at ha
      rw [← ha]

/-- The rows and further ones, read out of cells that lie in a row. -/
theorem rep_append {w : World} {e : Env} {s : Nat} {rows ys : List (List V)} {fl : Fl} {b o cap : Nat} {l : Nat → Option Value}
    (h1 : ∀ r ∈ rows, r.length = s) (h2 : ∀ r ∈ ys, r.length = s) (hcap : rows.length + ys.length ≤ cap) (ht : fl ≠ .tight)
    (hx : ∀ (i j : Nat) (v : V), at2 rows i j = some v → ∃ x, l (i * s + j) = some x ∧ Rep w e.pure v x)
    (hy : ∀ (i j : Nat) (v : V), at2 ys i j = some v → ∃ x, l ((rows.length + i) * s + j) = some x ∧ Rep w e.pure v x)
    (hc : ∀ k x, k < (rows.length + ys.length) * s → l k = some x → cel w b (o + k) = some x ∧ e.RO b (o + k)) :
    Rep w e (.dat s (rows ++ ys) fl) (.slice (some ⟨b, o, none⟩) (rows.length + ys.length) cap) := by
  have hes : ∀ r ∈ rows ++ ys, r.length = s := by
    intro r hr
    rcases List.mem_append.1 hr with h | h
    · exact h1 r h
    · exact h2 r h
  have hall : ∀ (i j : Nat) (v : V), at2 (rows ++ ys) i j = some v → ∃ x, l (i * s + j) = some x ∧ Rep w e.pure v x := by
    intro i j v hv
    rcases at2_append hv with h | ⟨hi, h⟩
    · exact hx i j v h
    · have := hy _ j v h
      rwa [show rows.length + (i - rows.length) = i by omega] at this
  have hlt : ∀ (i j : Nat) (v : V), at2 (rows ++ ys) i j = some v → i * s + j < (rows.length + ys.length) * s := by
    intro i j v hv
    obtain ⟨hi, hj⟩ := at2_lt hes hv
    have : (i + 1) * s ≤ (rows ++ ys).length * s := Nat.mul_le_mul_right s hi
    rw [Nat.succ_mul, List.length_append] at this
    omega
  have := Rep.dat (w := w) (e := e) s (rows ++ ys) fl b o cap (fun i j => (l (i * s + j)).getD undef) hes (by simpa using hcap) (fun h => absurd h ht)
    (fun i j v hv => by
      obtain ⟨x, hx, _⟩ := hall i j v hv
      have := hc _ x (hlt i j v hv) hx
      simpa [hx] using this)
    (fun i j v hv => by
      obtain ⟨x, hx, hr⟩ := hall i j v hv
      simpa [hx] using hr)
  rwa [List.length_append] at this

theorem op_append {o : Oper} {σ : St} {a : Act} {w : World} {e : Env} {k : V → St → Prop} (h : RSt G σ a w e) (t t' : TypeId) (x y : Operand)
    (ho : o.op = .call { callee := .builtin .append, args := #[x, y], argTypes := #[t, t'] }) (hk : evOp P G o σ k) : OpDone P G o σ a w e k := by
  simp only [evOp, ho, evBuiltin, List.map_cons, List.map_nil] at hk
  unfold evAppend at hk
  have hx := h.ev x
  have hy := h.ev y
  generalize hux : a.eval x = ux at hx
  generalize huy : a.eval y = uy at hy
  generalize σ.ev x = vx at hk hx
  generalize σ.ev y = vy at hk hy
  split at hk
  · rename_i el s bytes hsl
    obtain ⟨i, hu, hi, rfl, rfl⟩ := slOf_some hsl
    split at hk
    · rename_i es rows fl es' ys fl'
      obtain ⟨hni, hs1, hzl, hes, hes', hsol, hby, hml, hk⟩ := hk
      obtain ⟨z, hz, hzlen⟩ := Option.map_eq_some_iff.1 hzl
      obtain ⟨i', zv, hi', hzv, hzr⟩ := zeroOf_some hz
      rw [hi] at hi'
      simp only [Option.some.injEq] at hi'
      subst hi'
      have hzsz : zv.cells.size = i.size := by have := (hzr w e).1; simp at this; omega
      obtain ⟨base, cap, olds, rfl, hcap, hbn, htight, hol, hrs, hfo, hox, hoc, hsp⟩ := rows_cells (P := P) hx.1 hes
      obtain ⟨base2, cap2, news, rfl, hcap2, _, _, hnl, hys, hfn, hnx, _, _⟩ := rows_cells (P := P) hy.1 hes'
      have hlen : (Builtin.lenOf (.slice base2 ys.length cap2)).run P w = .ok ys.length w := rfl
      have hrun : ∀ u w', (Builtin.append_ #[t, t'] o.type #[.slice base rows.length cap, .slice base2 ys.length cap2]).run P w = .ok u w' → (execOp a.eval o).run P w = .ok (.value u) w' := by
        intro u w' hr
        simp only [execOp, ho, resolve, List.map_toArray, List.map_cons, List.map_nil, hux, huy]
        show Sem.run P (do pure (Next.value (← Builtin.append_ #[t, t'] o.type #[.slice base rows.length cap, .slice base2 ys.length cap2]))) w = _
        exact run_value hr
      have hnone : ∀ v ∈ news, one v = true := by
        intro v hv
        obtain ⟨k, hk, rfl⟩ := List.getElem_of_mem hv
        rw [hnl] at hk
        obtain ⟨vv, hvv⟩ := at2_some hys hk
        obtain ⟨xx, hxx, hrr⟩ := hnx _ _ _ hvv
        rw [Nat.div_add_mod' k i.size, List.getElem?_eq_getElem (by rw [hnl]; exact hk), Option.some.injEq] at hxx
        rw [hxx]
        refine one_of_solid hrr ?_
        unfold at2 at hvv
        obtain ⟨r, hr, hj⟩ := Option.bind_eq_some_iff.1 hvv
        exact List.all_eq_true.1 (hsol r (List.mem_of_getElem? hr)) _ (List.mem_of_getElem? hj)
      have hnx' : ∀ (l : List Value), l = olds ++ news → ∀ (i_1 j : Nat) (v : V), at2 ys i_1 j = some v → ∃ x, l[(rows.length + i_1) * i.size + j]? = some x ∧ Rep w e.pure v x := by
        intro l hl i1 j v hv
        subst hl
        obtain ⟨x, hx, hr⟩ := hnx i1 j v hv
        refine ⟨x, ?_, hr⟩
        rw [List.getElem?_append_right (by rw [hol, Nat.add_mul]; omega), hol, Nat.add_mul, show rows.length * i.size + i1 * i.size + j - rows.length * i.size = i1 * i.size + j by omega]
        exact hx
      have hox' : ∀ (l : List Value), l = olds ++ news → ∀ (i_1 j : Nat) (v : V), at2 rows i_1 j = some v → ∃ x, l[i_1 * i.size + j]? = some x ∧ Rep w e.pure v x := by
        intro l hl i1 j v hv
        subst hl
        obtain ⟨x, hx, hr⟩ := hox i1 j v hv
        exact ⟨x, by rw [List.getElem?_append_left (List.getElem?_eq_some_iff.1 hx).1]; exact hx, hr⟩
      -- the arm that grows
      have grows : ∀ (c : Nat) (σ' : St), cap < rows.length + ys.length → σ'.cur = σ.cur → RSt G σ' a w e → Ext σ.H w e σ'.H w e → k (.dat i.size (rows ++ ys) (.cls c)) σ' → OpDone P G o σ a w e k := by
        intro c σ' hg hcur hst hext hk
        have hr := run_append_grow' (ty := o.type) hu hni hi hzv w base rows.length cap ys.length (.slice base2 ys.length cap2) olds news hlen (hfo w.drew (fun _ _ => rfl)) (hfn w.drew (fun _ _ => rfl)) hg hml hby
        have hge := grownCap_ge w (rows.length + ys.length) cap el
        generalize grownCap w (rows.length + ys.length) cap el = nc at hr hge
        generalize hcs : olds.toArray ++ news.toArray ++ Builtin.zeroCells zv.cells (nc - (rows.length + ys.length)) = cs at hr
        have hcl : cs.size = nc * i.size := by
          rw [← hcs]
          simp only [Array.size_append, List.size_toArray, size_zeroCells, hzsz, hol, hnl, ← Nat.add_mul]
          congr 1
          omega
        have hm : (rows.length + ys.length) * i.size ≤ cs.size := by rw [hcl]; exact Nat.mul_le_mul_right _ hge
        obtain ⟨hst2, hext2⟩ := hst.drew
        have hst3 := hst2.lay el cs ((rows.length + ys.length) * i.size) c hm
        obtain ⟨mo, _, hext3⟩ := hst2.heap.lay el cs ((rows.length + ys.length) * i.size) c hm
        have mo2 : Mono w e (w.drew.alloc (.cells cs el)) (e.lay w.drew.heap.size ((rows.length + ys.length) * i.size) cs.size c) := ⟨mo.N, mo.ρ, mo.ro, mo.sp⟩
        refine ⟨_, _, _, σ', _, .inl (hrun _ _ hr), hk, hcur, hst3, ⟨?_, ?_⟩, (hext.trans hext2).trans hext3⟩
        · refine rep_append (l := fun k => (olds ++ news)[k]?) hrs hys (by omega) (by simp) (fun i1 j v hv => ?_) (fun i1 j v hv => ?_) (fun k x hk hx => ?_)
          · obtain ⟨x, hx, hr⟩ := hox' _ rfl i1 j v hv
            exact ⟨x, hx, hr.mono mo2.pure⟩
          · obtain ⟨x, hx, hr⟩ := hnx' _ rfl i1 j v hv
            exact ⟨x, hx, hr.mono mo2.pure⟩
          · refine ⟨?_, .inr ⟨rfl, by omega⟩⟩
            have hnew : (w.drew.alloc (.cells cs el)).heap[w.heap.size]? = some (.cells cs el) := World.alloc_heap_new w.drew _
            unfold cel World.cell?
            rw [hnew]
            simp only [Option.isSome_none, Bool.false_eq_true, if_false, Nat.zero_add]
            rw [← hcs, Array.getElem?_append_left (by simp only [Array.size_append, List.size_toArray, hol, hnl, ← Nat.add_mul]; exact hk), List.append_toArray, List.getElem?_toArray]
            exact hx
        · refine ⟨fun h0 => ?_, fun k h1 h2 => .inr ⟨rfl, rfl, ?_, ?_⟩⟩
          · have : (rows ++ ys).length = 0 := by rw [h0]; rfl
            rw [List.length_append] at this
            omega
          · rw [List.length_append] at h1
            show _ ≤ 0 + k
            omega
          · show 0 + k < _
            rw [hcl]; omega
      split at hk
      · exact hk.elim
      · -- no spare places
        have hcr := htight rfl
        by_cases hroom : rows.length + ys.length ≤ cap
        · have hy0 : ys = [] := List.eq_nil_of_length_eq_zero (by omega)
          subst hy0
          have hnews : news = [] := List.eq_nil_of_length_eq_zero (by rw [hnl]; simp)
          have hr := run_append_room' (ty := o.type) hu hni hi w w base rows.length cap 0 (.slice base2 0 cap2) news hlen (hfn w (fun _ _ => rfl)) hroom (by
            cases base with
            | none => rfl
            | some a0 => rw [hnews]; rfl)
          refine opDone_pure h (hrun _ _ hr) hk ?_
          rw [List.append_nil, Nat.add_zero]
          obtain ⟨hx1, _⟩ := hx
          cases hx1 with
          | nil => exact ⟨.nil _ _, trivial⟩
          | dat _ _ _ b0 o0 _ uu hes2 hcap2 ht h1 h2 =>
            have hees : ∀ (i1 j : Nat) (v : V), at2 rows i1 j = some v → es = i.size := by
              intro i1 j v hv
              rcases hes with h | h
              · subst h; simp [at2] at hv
              · exact h
            refine ⟨.dat _ _ _ b0 o0 cap uu hrs hcap2 (by simp) (fun i1 j v hv => ?_) h2, fun h0 => by rw [hcr, h0]; rfl, fun k h1 h2 => by rw [hcr] at h2; omega⟩
            have := h1 i1 j v hv
            rwa [hees i1 j v hv] at this
        · exact grows _ σ (by omega) rfl h (.refl _ _ _) hk
      · -- spare places of a class
        rename_i c
        obtain ⟨hd1, hd2⟩ := h.demote c
        by_cases hroom : rows.length + ys.length ≤ cap
        · cases base with
          | none =>
            have hc0 := hbn rfl
            have hy0 : ys = [] := List.eq_nil_of_length_eq_zero (by omega)
            have hr0 : rows = [] := List.eq_nil_of_length_eq_zero (by omega)
            subst hy0; subst hr0
            have hr := run_append_room' (ty := o.type) hu hni hi w w none 0 cap 0 (.slice base2 0 cap2) news hlen (hfn w (fun _ _ => rfl)) hroom rfl
            refine ⟨_, w, _, _, e, .inl (hrun _ _ hr), hk, rfl, hd1, ⟨?_, trivial⟩, hd2⟩
            rw [hc0]
            exact .nil _ _
          | some a0 =>
            obtain ⟨b0, o0, sp0⟩ := a0
            have := hsp _ rfl
            simp only at this
            subst this
            have hfl : (rows = [] → cap = 0) ∧ ∀ k, rows.length * es ≤ k → k < cap * es → e.Sp c b0 (o0 + k) := hx.2
            have hspk : ∀ k, rows.length * i.size ≤ k → k < cap * i.size → e.Sp c b0 (o0 + k) := by
              rcases hes with h0 | h0
              · intro k _ h2
                rw [hfl.1 h0] at h2
                omega
              · rw [← h0]; exact hfl.2
            have hs : ∀ j, j < news.length → e.Sp c b0 (o0 + rows.length * i.size + j) := by
              intro j hj
              rw [Nat.add_assoc]
              refine hspk _ (by omega) ?_
              rw [hnl] at hj
              have : (rows.length + ys.length) * i.size ≤ cap * i.size := Nat.mul_le_mul_right _ hroom
              rw [Nat.add_mul] at this
              omega
            have hst := run_storeCells2 (P := P) b0 news w (o0 + rows.length * i.size) 0 (fun j hj => by
              have := h.heap.sp c b0 _ (hs j hj)
              exact ⟨this.1, this.2.1⟩) hnone
            have hr := run_append_room' (ty := o.type) hu hni hi w (setCells w b0 (o0 + rows.length * i.size) news) (some ⟨b0, o0, none⟩) rows.length cap ys.length (.slice base2 ys.length cap2) news hlen (hfn w (fun _ _ => rfl)) hroom (by
              simp only [addr_add]
              exact hst)
            have hfill := h.fill c b0 (o0 + rows.length * i.size) news hs
            obtain ⟨mo, _, hext⟩ := h.heap.fill c b0 (o0 + rows.length * i.size) news hs
            have mm : ∀ {v u}, Rep w e.pure v u → Rep (setCells w b0 (o0 + rows.length * i.size) news) (e.fill b0 (o0 + rows.length * i.size) news.length).pure v u := fun h => h.mono' (e := e.pure) (e' := (e.fill b0 (o0 + rows.length * i.size) news.length).pure) (Nat.le_refl 0) (fun _ h => absurd h (Nat.not_lt_zero _)) mo.ro
            have hcel := cel_setCells b0 news w (o0 + rows.length * i.size) (fun j hj => (h.heap.sp c b0 _ (hs j hj)).1)
            refine ⟨_, _, _, _, _, .inl (hrun _ _ hr), hk, rfl, hfill, ⟨?_, ?_⟩, hext⟩
            · refine rep_append (l := fun k => (olds ++ news)[k]?) hrs hys hroom (by simp) (fun i1 j v hv => ?_) (fun i1 j v hv => ?_) (fun k x hk hx => ?_)
              · obtain ⟨x, hx, hr⟩ := hox' _ rfl i1 j v hv
                exact ⟨x, hx, mm hr⟩
              · obtain ⟨x, hx, hr⟩ := hnx' _ rfl i1 j v hv
                exact ⟨x, hx, mm hr⟩
              · by_cases hko : k < olds.length
                · rw [List.getElem?_append_left hko] at hx
                  obtain ⟨v, hv⟩ := at2_some hrs (k := k) (by rw [← hol]; exact hko)
                  have := hoc b0 o0 rfl _ _ v x hv (by rw [Nat.div_add_mod' k i.size]; exact hx)
                  rw [Nat.div_add_mod' k i.size] at this
                  exact ⟨(mo.ro _ _ this.2).2.trans this.1, (mo.ro _ _ this.2).1⟩
                · rw [List.getElem?_append_right (by omega)] at hx
                  have hkl : k - olds.length < news.length := (List.getElem?_eq_some_iff.1 hx).1
                  refine ⟨?_, .inr ⟨rfl, by omega, by omega⟩⟩
                  rw [hcel, if_pos ⟨rfl, by omega, by omega⟩, show o0 + k - (o0 + rows.length * i.size) = k - olds.length by omega]
                  exact hx
            · refine ⟨fun h0 => ?_, fun k h1 h2 => ?_⟩
              · have : (rows ++ ys).length = 0 := by rw [h0]; rfl
                rw [List.length_append] at this
                exact hfl.1 (List.eq_nil_of_length_eq_zero (by omega))
              · rw [List.length_append, Nat.add_mul] at h1
                refine ⟨hspk k (by omega) h2, ?_⟩
                rintro ⟨_, h3, h4⟩
                change o0 + k < o0 + rows.length * i.size + news.length at h4
                omega
        · exact grows c { σ with tmps := σ.tmps.map (V.demote (· == c)), H := demoteH (· == c) σ.H } (by omega) rfl hd1 hd2 hk
    · exact hk.elim
  · exact hk.elim

end Go.Abs
