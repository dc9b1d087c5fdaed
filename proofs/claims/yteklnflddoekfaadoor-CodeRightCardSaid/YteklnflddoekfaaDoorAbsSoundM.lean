/- Maps. -/
import Derived.Test.YteklnflddoekfaaDoorAbsSound8
import Derived.MapKept
import Derived.Maps.RangeRun
namespace Go.Abs
open Go.RowKit

variable {P : Program} {G : Nat → Option (List V)}

theorem rep_im' {w : World} {e : Env} {v u : Value} (h : Rep w e (.im v) u) : u = v := by
  cases h with
  | im => rfl

theorem mapOf_some {t k e : TypeId} (h : mapOf P t = some (k, e)) : P.underlying t = some (.map k e) := by
  unfold mapOf at h
  split at h
  · simp only [Option.some.injEq, Prod.mk.injEq] at h
    obtain ⟨rfl, rfl⟩ := h
    assumption
  · cases h

/-- A key's type and its value. -/
theorem keyTy_spec {w : World} {e : Env} {kt : TypeId} {k : V} {u : Value} (h : keyTy P kt k = true) (hr : Rep w e k u) : ∃ d, P.underlying kt = some d ∧ MapKept.IsKey d u := by
  unfold keyTy at h
  cases hd : P.underlying kt with
  | none => rw [hd] at h; cases h
  | some d =>
    rw [hd] at h
    refine ⟨d, rfl, ?_⟩
    cases k with
    | im v =>
      have := rep_im' hr
      subst this
      cases d <;> cases u <;> simp_all [MapKept.IsKey]
    | str l =>
      cases hr with
      | str => cases d <;> simp_all [MapKept.IsKey]
    | _ => cases d <;> simp at h

theorem keyEq_now {w : World} {e : Env} {d : TypeDesc} {k x : V} {u ux : Value} {b : Bool} (hd : MapKept.IsKey d u) (h : keyEq k x = some b) (r1 : Rep w e k u) (r2 : Rep w e x ux) :
    Instr.sameNow d u ux = some b ∧ (b = true → ux = u) := by
  obtain ⟨r, hr, hiff⟩ : ∃ r, (b = true ↔ u = ux) ∧ MapKept.IsKey d ux ∧ r = b := by
    unfold keyEq at h
    split at h
    · rename_i q a q' c
      have h1 := rep_im' r1
      have h2 := rep_im' r2
      subst h1; subst h2
      split at h
      · rename_i hq
        subst hq
        simp only [Option.some.injEq] at h
        subst h
        refine ⟨_, by simp, ?_, rfl⟩
        cases d <;> simp_all [MapKept.IsKey]
      · cases h
    · rename_i a c
      have h1 := rep_im' r1
      have h2 := rep_im' r2
      subst h1; subst h2
      simp only [Option.some.injEq] at h
      subst h
      refine ⟨_, by simp, ?_, rfl⟩
      cases d <;> simp_all [MapKept.IsKey]
    · rename_i a c
      cases r1 with
      | str =>
        cases r2 with
        | str =>
          simp only [Option.some.injEq] at h
          subst h
          refine ⟨_, by simp, ?_, rfl⟩
          cases d <;> simp_all [MapKept.IsKey]
    · cases h
  obtain ⟨r', hr', hiff'⟩ := MapKept.sameNow_of_keys hd hiff.1
  have hrb : r' = b := by
    cases r' <;> cases b <;> simp_all
  rw [hrb] at hr'
  exact ⟨hr', fun hb => (hr.1 hb).symm⟩

theorem evFind_spec {w : World} {e : Env} {d : TypeDesc} {k : V} {u : Value} (hd : MapKept.IsKey d u) (hu : Rep w e k u) {K : Option (Nat × V) → Prop} :
    ∀ (es : List (V × V)) (ms : List MapEntry) (i : Nat), es.length = ms.length →
      (∀ (n : Nat) (x : V × V) (m : MapEntry), es[n]? = some x → ms[n]? = some m → Rep w e x.1 m.key ∧ Rep w e x.2 m.val) → evFind k K es i →
      (K none ∧ Instr.findNow d u ms i = some none) ∨
      ∃ (n : Nat) (x : V × V) (m : MapEntry), es[n]? = some x ∧ ms[n]? = some m ∧ m.key = u ∧ K (some (i + n, x.2)) ∧ Instr.findNow d u ms i = some (some (i + n, m.val)) := by
  intro es
  induction es with
  | nil =>
    intro ms i hl hrep h
    cases ms with
    | nil => exact .inl ⟨h, rfl⟩
    | cons m ms => cases hl
  | cons x es ih =>
    intro ms i hl hrep h
    cases ms with
    | nil => cases hl
    | cons m ms =>
      have h0 := hrep 0 x m rfl rfl
      unfold evFind at h
      split at h
      · rename_i b hb
        obtain ⟨hnow, hsame⟩ := keyEq_now hd hb hu h0.1
        cases b with
        | true =>
          right
          exact ⟨0, x, m, rfl, rfl, hsame rfl, h.1 rfl, by simp [Instr.findNow, hnow]⟩
        | false =>
          rcases ih ms (i + 1) (by simpa using hl) (fun n y m' hy hm => hrep (n + 1) y m' (by simpa using hy) (by simpa using hm)) (h.2 rfl) with ⟨h1, h2⟩ | ⟨n, y, m', h1, h2, h3, h4, h5⟩
          · exact .inl ⟨h1, by simp [Instr.findNow, hnow, h2]⟩
          · refine .inr ⟨n + 1, y, m', by simpa using h1, by simpa using h2, h3, ?_, ?_⟩
            · rw [show i + (n + 1) = i + 1 + n by omega]; exact h4
            · rw [show i + (n + 1) = i + 1 + n by omega]; simp [Instr.findNow, hnow, h5]
      · exact h.elim

theorem mp_inv {w : World} {e : Env} {id : Nat} {u : Value} (h : Rep w e (.mp id) u) : u = .map (some (e.ρ id)) ∧ id < e.N := by
  cases h with
  | mp id hid => exact ⟨rfl, hid⟩

theorem op_makeMap {o : Oper} {σ : St} {a : Act} {w : World} {e : Env} {k : V → St → Prop} (h : RSt G σ a w e) (t : TypeId) (ho : o.op = .makeMap t none) (hk : evOp P G o σ k) :
    OpDone P G o σ a w e k := by
  simp only [evOp, ho] at hk
  have hb : RepBlk (w.alloc (.map #[] 0)) (e.push w.heap.size) w.heap.size (.map [] 0) :=
    .map [] #[] 0 (World.alloc_heap_new w _) rfl ⟨rfl, fun i m hm => by simp at hm⟩ fun i x m hx => by simp at hx
  refine ⟨.map (some w.heap.size), _, _, _, e.push w.heap.size, .inl ?_, hk, rfl, h.push _ _ hb, ⟨?_, trivial⟩, (h.heap.push _ _ hb).2⟩
  · simp only [execOp, ho]
    exact run_value rfl
  · have := Rep.mp (w := w.alloc (.map #[] 0)) (e := e.push w.heap.size) e.N (by simp [Env.push])
    rw [Env.push_new, h.heap.len] at this
    exact this

theorem born_push {ms : Array MapEntry} {clock : Nat} {key val : Value} (hc : clock = ms.size ∧ ∀ (i : Nat) (m : MapEntry), ms[i]? = some m → m.born = i) :
    clock + 1 = (ms.push { key, val, born := clock }).size ∧ ∀ (i : Nat) (m : MapEntry), (ms.push { key, val, born := clock })[i]? = some m → m.born = i := by
  refine ⟨by simp [hc.1], fun i m hm => ?_⟩
  rw [Array.getElem?_push] at hm
  split at hm
  · rename_i hi
    simp only [Option.some.injEq] at hm
    subst hm
    rw [hi]
    exact hc.1
  · exact hc.2 i m hm

theorem op_insert {o : Oper} {σ : St} {a : Act} {w : World} {e : Env} {k : V → St → Prop} (h : RSt G σ a w e) (t : TypeId) (m x y : Operand) (ho : o.op = .mapUpdate t m x y ∨ o.op = .insert t m x y) (hk : evOp P G o σ k) :
    OpDone P G o σ a w e k := by
  have hk : evInsert P t (σ.ev x) (σ.ev y) σ (fun σ' => k (.tup []) σ') (σ.ev m) := by
    rcases ho with ho | ho <;> simpa only [evOp, ho] using hk
  have hex : execOp a.eval o = (do Instr.mapUpdate t (a.eval m) (a.eval x) (a.eval y); pure Next.skip) := by
    rcases ho with ho | ho <;> simp only [execOp, ho] <;> rfl
  have hm := (h.ev m).1
  have hx := (h.ev x).1
  have hy := (h.ev y).1
  generalize a.eval m = um at hm hex
  generalize a.eval x = ux at hx hex
  generalize a.eval y = uy at hy hex
  generalize σ.ev m = vm at hk hm
  generalize σ.ev x = vx at hk hx
  generalize σ.ev y = vy at hk hy
  cases vm with
  | mp id =>
    simp only [evInsert] at hk
    split at hk
    · rename_i es c kt et hH hmo
      obtain ⟨hty, hk⟩ := hk
      obtain ⟨rfl, hid⟩ := mp_inv hm
      have hun := mapOf_some hmo
      obtain ⟨d, hd, hkey⟩ := keyTy_spec hty hx
      have hlive : live σ.H id := ⟨_, hH⟩
      have hblk := h.heap.blk id _ hH
      cases hblk with
      | map es ms c hb hl hc hrep =>
        rcases evFind_spec hkey hx es ms.toList 0 (by simpa using hl) (fun n z m' hz hm' => hrep n z m' hz (by simpa using hm')) hk with ⟨hk, hnow⟩ | ⟨n, z, m', hz, hm', hmk, hk, hnow⟩
        · obtain ⟨mo, hH', hx'⟩ := h.heap.setBlk hlive (w' := { w with heap := w.heap.setIfInBounds (e.ρ id) (.map (ms.push { key := ux, val := uy, born := c }) (c + 1)) }) (.map (es ++ [(vx, vy)]) (c + 1))
            (fun r hr => (MapKept.heap_set hb).2 r hr) (by simp) ⟨rfl, rfl, rfl⟩ (fun mo => by
              refine .map _ _ _ (MapKept.heap_set hb).1 (by simp [hl]) (born_push hc) fun i p q hp hq => ?_
              rw [Array.getElem?_push] at hq
              split at hq
              · rename_i hi
                simp only [Option.some.injEq] at hq
                subst hq
                rw [hi, ← hl, List.getElem?_append_right (Nat.le_refl _)] at hp
                simp at hp
                subst hp
                exact ⟨hx.mono mo, hy.mono mo⟩
              · rename_i hi
                have hlt : i < es.length := by
                  have := (Array.getElem?_eq_some_iff.1 hq).1
                  omega
                rw [List.getElem?_append_left hlt] at hp
                exact ⟨(hrep i p q hp hq).1.mono mo, (hrep i p q hp hq).2.mono mo⟩)
          refine ⟨undef, _, .tup [], _, e, .inr ⟨?_, rfl⟩, hk, rfl, h.setBlk mo hH', ⟨.tup [] #[] rfl (fun i v u h => by simp at h), trivial⟩, hx'⟩
          rw [hex, Sem.run_bind]
          simp [Instr.mapUpdate, run_underlying' hun, MapKept.run_getObj_map hb, MapKept.run_checkKey hd hkey, MapKept.run_findKey hd hnow, MapKept.run_setObj_map _ hb, Result.andThen]
        · have hm2 : ms[n]? = some m' := by simpa using hm'
          rw [Nat.zero_add] at hk hnow
          obtain ⟨mo, hH', hx'⟩ := h.heap.setBlk hlive (w' := { w with heap := w.heap.setIfInBounds (e.ρ id) (.map (ms.modify n fun e => { e with key := ux, val := uy }) c) }) (.map (es.set n (vx, vy)) c)
            (fun r hr => (MapKept.heap_set hb).2 r hr) (by simp) ⟨rfl, rfl, rfl⟩ (fun mo => by
              have hget : ∀ (i : Nat) (q : MapEntry), (ms.modify n fun e => { e with key := ux, val := uy })[i]? = some q → ∃ q0, ms[i]? = some q0 ∧ q = if i = n then { q0 with key := ux, val := uy } else q0 := by
                intro i q hq
                rw [Array.getElem?_modify] at hq
                by_cases hin : n = i
                · rw [if_pos hin] at hq
                  obtain ⟨q0, hq0, rfl⟩ := Option.map_eq_some_iff.1 hq
                  exact ⟨q0, hq0, by rw [if_pos hin.symm]⟩
                · rw [if_neg hin] at hq
                  exact ⟨q, hq, by rw [if_neg fun h => hin h.symm]⟩
              refine .map _ _ _ (MapKept.heap_set hb).1 (by simp [hl]) ⟨by simp [hc.1], fun i q hq => ?_⟩ fun i p q hp hq => ?_
              · obtain ⟨q0, hq0, rfl⟩ := hget i q hq
                have := hc.2 i q0 hq0
                split <;> exact this
              · obtain ⟨q0, hq0, rfl⟩ := hget i q hq
                by_cases hin : i = n
                · subst hin
                  have hlt : i < es.length := by have := (List.getElem?_eq_some_iff.1 hz).1; omega
                  rw [List.getElem?_set_self hlt] at hp
                  simp only [Option.some.injEq] at hp
                  subst hp
                  rw [if_pos rfl]
                  exact ⟨hx.mono mo, hy.mono mo⟩
                · rw [List.getElem?_set_ne (fun h => hin h.symm)] at hp
                  rw [if_neg hin]
                  exact ⟨(hrep i p q0 hp hq0).1.mono mo, (hrep i p q0 hp hq0).2.mono mo⟩)
          refine ⟨undef, _, .tup [], _, e, .inr ⟨?_, rfl⟩, hk, rfl, h.setBlk mo hH', ⟨.tup [] #[] rfl (fun i v u h => by simp at h), trivial⟩, hx'⟩
          rw [hex, Sem.run_bind]
          simp [Instr.mapUpdate, run_underlying' hun, MapKept.run_getObj_map hb, MapKept.run_checkKey hd hkey, MapKept.run_findKey hd hnow, hm2, hmk, MapKept.run_keyThatStays hkey, MapKept.run_setObj_map _ hb, Result.andThen]
    · exact hk.elim
  | _ => exact hk.elim

theorem zero1_some {t : TypeId} {z : V} (h : zero1 P t = some z) (w : World) : ∃ u, (zeroValue t).run P w = .ok u w ∧ ∀ w' e, RepF w' e z u := by
  unfold zero1 at h
  cases hi : P.info? t with
  | none => simp [hi] at h
  | some i =>
    cases hz : i.zero with
    | none => simp [hi, hz] at h
    | some v =>
      simp only [hi, hz, Option.bind_some] at h
      refine ⟨v, ?_, fun w' e => ?_⟩
      · unfold zeroValue
        rw [Sem.run_bind, run_typeInfo' hi]
        simp only [Result.andThen, hz]
        rfl
      · split at h
        · cases h
        · rename_i v' hv'
          simp only [Option.some.injEq] at h hv'
          subst hv'; subst h
          exact rep_absV w' e _
        · cases h

theorem tup2 {w : World} {e : Env} {v v' : V} {u u' : Value} (h : Rep w e v u) (h' : Rep w e v' u') : RepF w e (.tup [v, v']) (.tuple #[u, u']) :=
  ⟨.tup _ _ rfl fun i x y hx hy => by
    match i with
    | 0 => simp at hx hy; subst hx; subst hy; exact h
    | 1 => simp at hx hy; subst hx; subst hy; exact h'
    | i + 2 => simp at hx, trivial⟩
theorem tup3 {w : World} {e : Env} {v v' v2 : V} {u u' u2 : Value} (h : Rep w e v u) (h' : Rep w e v' u') (h2 : Rep w e v2 u2) : RepF w e (.tup [v, v', v2]) (.tuple #[u, u', u2]) :=
  ⟨.tup _ _ rfl fun i x y hx hy => by
    match i with
    | 0 => simp at hx hy; subst hx; subst hy; exact h
    | 1 => simp at hx hy; subst hx; subst hy; exact h'
    | 2 => simp at hx hy; subst hx; subst hy; exact h2
    | i + 3 => simp at hx, trivial⟩

theorem op_lookup {o : Oper} {σ : St} {a : Act} {w : World} {e : Env} {k : V → St → Prop} (h : RSt G σ a w e) (t : TypeId) (m x : Operand) (ok : Bool) (ho : o.op = .lookup t m x ok) (hk : evOp P G o σ k) :
    OpDone P G o σ a w e k := by
  simp only [evOp, ho] at hk
  have hex : execOp a.eval o = (do pure (Next.value (← Instr.lookup t (a.eval m) (a.eval x) ok))) := by
    simp only [execOp, ho]
  have hm := (h.ev m).1
  have hx := (h.ev x).1
  generalize a.eval m = um at hm hex
  generalize a.eval x = ux at hx hex
  generalize σ.ev m = vm at hk hm
  generalize σ.ev x = vx at hk hx
  cases vm with
  | mp id =>
    simp only [evLookup] at hk
    split at hk
    · rename_i es c kt et hH hmo
      split at hk
      · rename_i z hz
        obtain ⟨hty, hk⟩ := hk
        obtain ⟨rfl, hid⟩ := mp_inv hm
        have hun := mapOf_some hmo
        obtain ⟨d, hd, hkey⟩ := keyTy_spec hty hx
        obtain ⟨zu, hzr, hzrep⟩ := zero1_some hz w
        have hblk := h.heap.blk id _ hH
        cases hblk with
        | map es ms c hb hl hc hrep =>
          have hck : ∀ b, (Instr.checkKey b 10000 kt ux).run P w = .ok () w := fun b => MapKept.run_checkKey hd hkey b 9999
          rcases evFind_spec hkey hx es ms.toList 0 (by simpa using hl) (fun n z m' hz hm' => hrep n z m' hz (by simpa using hm')) hk with ⟨hk, hnow⟩ | ⟨n, z', m', hz', hm', hmk, hk, hnow⟩
          · have hrun : (Instr.lookup t (.map (some (e.ρ id))) ux ok).run P w = .ok (if ok then .tuple #[zu, .bool false] else zu) w := by
              simp [Instr.lookup, run_underlying' hun, MapKept.run_getObj_map hb, hck, MapKept.run_findKey hd hnow, hzr, Result.andThen]
            cases ok with
            | true => exact opDone_pure h (u := .tuple #[zu, .bool false]) (by rw [hex]; exact run_value hrun) hk (tup2 (hzrep w e).1 (.im _))
            | false => exact opDone_pure h (u := zu) (by rw [hex]; exact run_value hrun) hk (hzrep w e).1.strip
          · have hv : Rep w e z'.2 m'.val := (hrep n z' m' hz' (by simpa using hm')).2
            have hrun : (Instr.lookup t (.map (some (e.ρ id))) ux ok).run P w = .ok (if ok then .tuple #[m'.val, .bool true] else m'.val) w := by
              simp [Instr.lookup, run_underlying' hun, MapKept.run_getObj_map hb, hck, MapKept.run_findKey hd hnow, Result.andThen]
            cases ok with
            | true => exact opDone_pure h (u := .tuple #[m'.val, .bool true]) (by rw [hex]; exact run_value hrun) hk (tup2 hv (.im _))
            | false => exact opDone_pure h (u := m'.val) (by rw [hex]; exact run_value hrun) hk hv.strip
      · exact hk.elim
    · exact hk.elim
  | _ => exact hk.elim

theorem op_range {o : Oper} {σ : St} {a : Act} {w : World} {e : Env} {k : V → St → Prop} (h : RSt G σ a w e) (t : TypeId) (x : Operand) (ho : o.op = .range t x) (hk : evOp P G o σ k) :
    OpDone P G o σ a w e k := by
  simp only [evOp, ho] at hk
  have hx := (h.ev x).1
  generalize hux : a.eval x = ux at hx
  generalize σ.ev x = vx at hk hx
  cases vx with
  | mp id =>
    simp only [evRange] at hk
    split at hk
    · rename_i es c y hH hmo
      obtain ⟨rfl, hid⟩ := mp_inv hx
      have hun := mapOf_some (k := y.1) (e := y.2) hmo
      have hblk := h.heap.blk id _ hH
      cases hblk with
      | map es ms c hb hl hc hrep =>
        have hρ : (e.push w.heap.size).ρ id = e.ρ id := (Mono.push h.heap (.mapIter (some (e.ρ id)) c #[] c) _).ρ id hid
        have hbk : RepBlk (w.alloc (.mapIter (some (e.ρ id)) c #[] c)) (e.push w.heap.size) w.heap.size (.iter id c c []) :=
          .iter id c c [] (by rw [hρ]; exact World.alloc_heap_new w _) (Nat.lt_of_lt_of_le hid (Mono.push h.heap (.mapIter (some (e.ρ id)) c #[] c) w.heap.size).N)
        refine ⟨.pointer (some ⟨w.heap.size, 0, none⟩), _, _, _, e.push w.heap.size, .inl ?_, hk, rfl, h.push _ _ hbk, ⟨?_, trivial⟩, (h.heap.push _ _ hbk).2⟩
        · simp only [execOp, ho, hux]
          exact run_value (run_range_map w t _ _ (e.ρ id) ms c hun hb)
        · have := Rep.ptr (w := w.alloc (.mapIter (some (e.ρ id)) c #[] c)) (e := e.push w.heap.size) e.N 0 (by simp [Env.push])
          rw [Env.push_new, h.heap.len] at this
          exact this
    · exact hk.elim
  | _ => exact hk.elim

theorem born_get {ms : Array MapEntry} {clock : Nat} (hc : clock = ms.size ∧ ∀ (i : Nat) (m : MapEntry), ms[i]? = some m → m.born = i) {m : MapEntry} (h : m ∈ ms.toList) : ms[m.born]? = some m := by
  obtain ⟨i, hi, rfl⟩ := List.getElem_of_mem h
  have hi' : i < ms.size := by simpa using hi
  have : ms[i]? = some ms.toList[i] := by simp [hi']
  rw [hc.2 i _ this]
  exact this

theorem born_nodup {ms : Array MapEntry} {clock : Nat} (hc : clock = ms.size ∧ ∀ (i : Nat) (m : MapEntry), ms[i]? = some m → m.born = i) : (ms.toList.map (·.born)).Nodup := by
  have : ms.toList.map (·.born) = List.range ms.size := by
    apply List.ext_getElem?
    intro i
    rw [List.getElem?_map]
    by_cases hi : i < ms.size
    · have h1 : ms.toList[i]? = some ms[i] := by simp [hi]
      rw [h1, List.getElem?_range hi]
      exact congrArg some (hc.2 i _ (Array.getElem?_eq_getElem hi))
    · have h1 : ms.toList[i]? = none := by simp; omega
      have h2 : (List.range ms.size)[i]? = none := by simp; omega
      rw [h1, h2]; rfl
  rw [this]
  exact List.nodup_range

theorem op_next {o : Oper} {σ : St} {a : Act} {w : World} {e : Env} {k : V → St → Prop} (h : RSt G σ a w e) (x : Operand) (ho : o.op = .next x false) (hk : evOp P G o σ k) :
    OpDone P G o σ a w e k := by
  simp only [evOp, ho] at hk
  have hx := (h.ev x).1
  generalize hux : a.eval x = ux at hx
  generalize σ.ev x = vx at hk hx
  unfold evNext at hk
  split at hk
  · rename_i id
    split at hk
    · rename_i m since stepped seen hH
      split at hk
      · rename_i es c hM
        obtain ⟨hcond, hk0, hk1⟩ := hk
        rw [Bool.and_eq_true, Nat.ble_eq, Nat.ble_eq] at hcond
        obtain ⟨rfl, hid⟩ := ptr_inv hx
        have hblk := h.heap.blk m _ hM
        have hit := h.heap.blk id _ hH
        cases hblk with
        | map es ms c hb hl hc hrep =>
        cases hit with
        | iter m since stepped seen hbi hmN =>
          have hold : ∀ x ∈ ms.toList, x.born < since := fun x hx => by
            have := born_get hc hx
            have := (Array.getElem?_eq_some_iff.1 this).1
            omega
          rcases run_next_at (P := P) w o.type (e.ρ id) (e.ρ m) since stepped seen.toArray ms c hbi hb hold hcond.2 with ⟨hleft, hrun⟩ | ⟨en, hen, w1, hw1, hrun⟩
          · refine opDone_pure h (u := .tuple #[.bool false]) (by simp only [execOp, ho, hux]; exact run_value hrun) (hk0 fun i hi => ?_) ⟨.tup _ _ rfl fun j v u hv hu => ?_, trivial⟩
            · have hi' : i < ms.size := by omega
              have hall : ∀ x ∈ ms.toList, seen.toArray.contains x.born = true := fun x hx => by
                by_cases hs : seen.toArray.contains x.born = true
                · exact hs
                · exfalso
                  have : x ∈ (leftOf ms seen.toArray).toList := by
                    unfold leftOf
                    simp only [Array.toList_filter, List.mem_filter, Bool.not_eq_true']
                    exact ⟨hx, by simpa using hs⟩
                  have hz : (leftOf ms seen.toArray).toList = [] := by
                    apply List.eq_nil_of_length_eq_zero
                    simpa using hleft
                  rw [hz] at this
                  cases this
              have := hall ms[i] (by simp)
              rw [hc.2 i _ (Array.getElem?_eq_getElem hi')] at this
              simpa using this
            · cases j with
              | zero => simp at hv hu; subst hv; subst hu; exact .im _
              | succ j => simp at hv
          · unfold leftOf at hen
            simp only [Array.toList_filter, List.mem_filter, Bool.not_eq_true'] at hen
            obtain ⟨hen, hns⟩ := hen
            have hg := born_get hc hen
            have hlt : en.born < es.length := by
              have := (Array.getElem?_eq_some_iff.1 hg).1
              omega
            have hns' : ¬ en.born ∈ seen := by simpa using hns
            have hrx := hrep en.born es[en.born] en (List.getElem?_eq_getElem hlt) hg
            have hk := hk1 en.born es[en.born] (List.getElem?_eq_getElem hlt) hns'
            have hlive : live σ.H id := ⟨_, hH⟩
            have hd : RSt G σ a w1 e ∧ Ext σ.H w e σ.H w1 e := by
              rcases hw1 with rfl | rfl
              · exact ⟨h, .refl _ _ _⟩
              · exact h.drew
            have hheap : w1.heap = w.heap := by rcases hw1 with rfl | rfl <;> rfl
            have hbi1 : w1.heap[e.ρ id]? = some (.mapIter (some (e.ρ m)) since seen.toArray stepped) := by rw [hheap]; exact hbi
            have hrx1 : Rep w1 e es[en.born].1 en.key ∧ Rep w1 e es[en.born].2 en.val := by
              rcases hw1 with rfl | rfl
              · exact hrx
              · exact ⟨hrx.1.mono (Mono.drew w e), hrx.2.mono (Mono.drew w e)⟩
            obtain ⟨mo, hH', hx'⟩ := hd.1.heap.setBlk hlive (w' := ChangeMaps.setBlock w1 (e.ρ id) (.mapIter (some (e.ρ m)) since (seen.toArray.push en.born) c)) (.iter m since c (seen ++ [en.born]))
              (fun r hr => (MapKept.heap_set hbi1).2 r hr) (by simp [ChangeMaps.setBlock]) ⟨rfl, rfl, rfl⟩ (fun mo => .iter m since c _ (by
                have h1 := (MapKept.heap_set (o' := .mapIter (some (e.ρ m)) since (seen.toArray.push en.born) c) hbi1).1
                simpa [ChangeMaps.setBlock] using h1) hmN)
            refine ⟨.tuple #[.bool true, en.key, en.val], _, _, _, e, .inl ?_, hk, rfl, hd.1.setBlk mo hH', tup3 (.im _) (hrx1.1.mono mo) (hrx1.2.mono mo), hd.2.trans hx'⟩
            simp only [execOp, ho, hux]
            exact run_value hrun
      · exact hk.elim
    · exact hk.elim
  · exact hk.elim

theorem op_entry {o : Oper} {σ : St} {a : Act} {w : World} {e : Env} {k : V → St → Prop} (h : RSt G σ a w e) (x : Operand) (ho : o.op = .entry x) (hk : evOp P G o σ k) :
    OpDone P G o σ a w e k := by
  simp only [evOp, ho] at hk
  have hx := (h.ev x).1
  generalize hux : a.eval x = ux at hx
  generalize σ.ev x = vx at hk hx
  unfold evEntry at hk
  split at hk
  · rename_i id
    split at hk
    · rename_i m since stepped seen hH
      split at hk
      · rename_i es c i hM hlast
        obtain ⟨hcond, hk⟩ := hk
        rw [Nat.beq_eq] at hcond
        split at hk
        · rename_i y hy
          obtain ⟨rfl, hid⟩ := ptr_inv hx
          have hblk := h.heap.blk m _ hM
          have hit := h.heap.blk id _ hH
          cases hblk with
          | map es ms c hb hl hc hrep =>
          cases hit with
          | iter m since stepped seen hbi hmN =>
            have hi : i < ms.size := by
              have := (List.getElem?_eq_some_iff.1 hy).1
              omega
            have hg : ms[i]? = some ms[i] := Array.getElem?_eq_getElem hi
            have hborn := hc.2 i _ hg
            obtain ⟨pre, rfl⟩ : ∃ pre, seen = pre ++ [i] := by
              rw [List.getLast?_eq_some_iff] at hlast
              exact hlast
            have hr := hrep i y ms[i] hy hg
            have hbi' : w.heap[e.ρ id]? = some (.mapIter (some (e.ρ m)) since (pre.toArray.push ms[i].born) c) := by
              rw [hbi, hborn, hcond]
              simp
            refine opDone_pure h (u := .tuple #[ms[i].key, ms[i].val]) (by simp only [execOp, ho, hux]; exact run_value (run_entry_at (P := P) w (e.ρ id) (e.ρ m) since pre.toArray ms c ms[i] hbi' hb (by simp) (born_nodup hc))) hk (tup2 hr.1 hr.2)
        · exact hk.elim
      · exact hk.elim
    · exact hk.elim
  · exact hk.elim
end Go.Abs
